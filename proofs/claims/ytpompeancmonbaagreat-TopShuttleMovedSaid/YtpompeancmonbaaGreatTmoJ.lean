/- TopShuttleMoved: the law, walked. Conditions: none. -/
import Derived.Test.YtpompeancmonbaaGreatE08
import Derived.Test.YtpompeancmonbaaGreatE17
import Derived.Test.YtpompeancmonbaaGreatE23
import Derived.Test.YtpompeancmonbaaGreatE22
import Derived.Test.YtpompeancmonbaaGreatE24
import Derived.Test.YtpompeancmonbaaGreatE26
import Derived.Test.YtpompeancmonbaaGreatE14
import Derived.Test.YtpompeancmonbaaGreatE42
import Derived.Test.YtpompeancmonbaaGreatE44
import Derived.Test.YtpompeancmonbaaGreatE41
import Derived.Test.YtpompeancmonbaaGreatE35
import Derived.Deep.CutRange
namespace Go.Proofs.YtpompeancmonbaaGreat
open Go.RowKit Go.ChangeMaps
set_option maxHeartbeats 4000000
set_option maxRecDepth 100000

attribute [local go_sem] Oper.semAt_some
theorem kby_new : ∀ i, i < 6 → ((kby i).toList == (kby 2).toList) = (i == 2) := by
  intro i hi
  obtain rfl | rfl | rfl | rfl | rfl | rfl : i = 0 ∨ i = 1 ∨ i = 2 ∨ i = 3 ∨ i = 4 ∨ i = 5 := by omega
  all_goals simp [kby, ByteArray.toList_eq]
theorem tok_true {N D : List Bar} {n : Int} (h : tokB N D n = true) : (N.length : Int) ≤ n ∧ (D.length : Int) ≤ n ∧ tornE N D = 0 := by
  unfold tokB at h
  simp only [Bool.and_eq_true, decide_eq_true_eq] at h
  exact ⟨h.1.1, h.1.2, h.2⟩
theorem tmod_near {n m : Int} (h : 0 < m) : -m < n.tmod m ∧ n.tmod m < m := by
  have h1 := Int.tmod_lt_of_pos n h
  have h2 := Int.tmod_lt_of_pos (-n) h
  rw [Int.neg_tmod] at h2
  omega
theorem par_iff (n : Int) : n.tmod 2 = 0 ↔ n % 2 = 0 := by
  rw [Int.tmod_eq_emod]
  split <;> omega
theorem aMirror {v : Value} (l : List Bar) (w : World) (h : SlB w v l) (hE : netE l = 0) : Calls Tryz.prog 9 #[v] w (RBE w (mirN l) 0) := by
  have := apiMirror_any l w h
  rw [hE] at this
  exact this
theorem aTurn {v : Value} (l : List Bar) (q : Int) (w : World) (h : SlB w v l) (hE : netE l = 0) : Calls Tryz.prog 10 #[v, .int .i64 q] w (RBE w (turnN (qN q) l) 0) := by
  have := apiTurn_any l q w h
  rw [hE] at this
  exact this
theorem bShift {v : Value} (l : List Bar) (x y : Int) (w : World) (h : SlB w v l) (hE : netE l = 0) (hk : knotE x y = 0) (ha : allIn (l.map (shB (x, y))) = false) : Calls Tryz.prog 7 #[v, .agg #[.int .i64 x, .int .i64 y]] w (RBE w (shiftL l x y) 3) := by
  have h1 : degE l x y = 0 := by unfold degE; rw [hE, hk]; rfl
  have e1 : shiftE l x y = 3 := by unfold shiftE shE; rw [if_pos h1]; simp [ha]
  have := apiShift_any l x y w h
  rwa [e1] at this
theorem Chg.setIn {S : List Nat} {w W : World} (h : Chg S w W) {p : Addr} (hp : p.block ∈ S) (u : Value) : Chg S w (W.setCell p u) :=
  h.trans ⟨rfl, rfl, rfl, by simp, fun k _ hn => Below.heap_setCell W p u k (by rintro rfl; exact hn hp)⟩
/-- the three moved torn nets, after k rounds -/
def movR (L1 L2 L3 E1 E2 E3 : List Bar) (g8 g9 g10 B : Nat) (k : Nat) (W : World) : Prop :=
  ∃ a8 b8 a9 b9 a10 b10, Blk W g8 27 #[a8, b8] ∧ Blk W g9 27 #[a9, b9] ∧ Blk W g10 27 #[a10, b10] ∧
    (1 ≤ k → OwB B W a8 L1 ∧ OwB B W a9 L2 ∧ OwB B W a10 L3) ∧
    (2 ≤ k → OwB B W b8 E1 ∧ OwB B W b9 E2 ∧ OwB B W b10 E3)
theorem set3 {W : World} {g8 g9 g10 : Nat} {t : TypeId} {c8 c9 c10 : Array Value} (i : Nat) (x8 x9 x10 : Value) (h8 : Blk W g8 t c8) (h9 : Blk W g9 t c9) (h10 : Blk W g10 t c10) (n1 : g8 ≠ g9) (n2 : g8 ≠ g10) (n3 : g9 ≠ g10) :
    Blk (((W.setCell ⟨g8, i, none⟩ x8).setCell ⟨g9, i, none⟩ x9).setCell ⟨g10, i, none⟩ x10) g8 t (c8.setIfInBounds i x8) ∧
    Blk (((W.setCell ⟨g8, i, none⟩ x8).setCell ⟨g9, i, none⟩ x9).setCell ⟨g10, i, none⟩ x10) g9 t (c9.setIfInBounds i x9) ∧
    Blk (((W.setCell ⟨g8, i, none⟩ x8).setCell ⟨g9, i, none⟩ x9).setCell ⟨g10, i, none⟩ x10) g10 t (c10.setIfInBounds i x10) ∧
    Chg [g8, g9, g10] W (((W.setCell ⟨g8, i, none⟩ x8).setCell ⟨g9, i, none⟩ x9).setCell ⟨g10, i, none⟩ x10) :=
  ⟨((h8.set_ i x8).far (p := ⟨g9, i, none⟩) n1 x9).far (p := ⟨g10, i, none⟩) n2 x10, ((h9.far (p := ⟨g8, i, none⟩) n1.symm x8).set_ i x9).far (p := ⟨g10, i, none⟩) n3 x10,
    ((h10.far (p := ⟨g8, i, none⟩) n2.symm x8).far (p := ⟨g9, i, none⟩) n3.symm x9).set_ i x10,
    ((Chg.refl.setIn (p := ⟨g8, i, none⟩) (by simp) x8).setIn (p := ⟨g9, i, none⟩) (by simp) x9).setIn (p := ⟨g10, i, none⟩) (by simp) x10⟩
theorem topShuttleMoved_any {v u : Value} (N D : List Bar) (bx bY : Int) (w : World) (hN : SlB w v N) (hD : SlB w u D) (hx : -128 ≤ bx ∧ bx ≤ 127) (hy : -128 ≤ bY ∧ bY ≤ 127) (lN : N.length ≤ 5864062014805) (lD : D.length ≤ 5864062014805) : Calls Tryz.prog 3 #[.agg #[v, u], .agg #[.int .i8 bx, .int .i8 bY]] w (RV w (.bool true)) := by
  have sT := fun W (hb : Below w.heap.size w W) => storn_any N D 24 W (hN.below hb) (hD.below hb) lN lD
  obtain ⟨AN, cN, rfl, _, _, _⟩ := id hN
  obtain ⟨AD, cD, rfl, _, _, _⟩ := id hD
  have hK := (Blk.new w 24 #[.slice AN N.length cN, .slice AD D.length cD]).alloc (.cells #[.int .i8 bx, .int .i8 bY] 26)
  have hA := Blk.new1 w (.cells #[.slice AN N.length cN, .slice AD D.length cD] 24) 26 #[.int .i8 bx, .int .i8 bY]
  have fhK := hK.facts
  have fhA := hA.facts
  obtain ⟨tb, htb⟩ : ∃ b, tokB N D 24 = b := ⟨_, rfl⟩
  rw [htb] at sT
  by_cases hs : tb = true ∧ D.length ≤ 8
  rotate_left
  · have hs' : tb = false ∨ tb = true ∧ (8 < (D.length : Int)) = True := by
      cases tb
      · exact .inl rfl
      · exact .inr ⟨rfl, eq_true (by have : ¬ D.length ≤ 8 := fun e => hs ⟨rfl, e⟩; omega)⟩
    clear htb hs
    rcases hs' with rfl | ⟨rfl, t8⟩
    · go_enter Tryz.func3, Tryz.ntmps3
      go_wp2_with fail
      refine (sT _ (by (repeat (first | exact bl_refl | assumption | (apply bl_then; assumption) | refine bl_alloc ?_ _ | refine bl_drew ?_ | refine bl_drewN ?_ _)))).mono ?_
      rintro e w1 ⟨A1, c1, A2, c2, rfl, hN1, hD1, hb1⟩
      have hbw1 : Below w.heap.size w w1 := by (repeat (first | exact bl_refl | assumption | (apply bl_then; assumption) | refine bl_alloc ?_ _ | refine bl_drew ?_ | refine bl_drewN ?_ _))
      go_wp2_with (refine wpList_store_blk (Blk.new w1 27 #[.slice none 0 0, .slice none 0 0]) rfl _ _ _ rfl rfl rfl (by rfl) (by kernel_rfl) (by kernel_rfl) ?_; intro w2 hT2 hc2)
      have hb2 : Below w1.heap.size w1 w2 := ((Chg.of_below (bl_alloc bl_refl _)).trans hc2).below (by simp) (Nat.le_refl _)
      clear hc2
      go_wp2_with fail
      refine (shuttleHole_any _).mono ?_
      rintro e w3 ⟨rfl, hb3⟩
      go_wp2
      go_ret
      exact ⟨rfl, bl_then hb3 (bl_then hb2 hbw1)⟩
    · go_enter Tryz.func3, Tryz.ntmps3
      go_wp2_with fail
      refine (sT _ (by (repeat (first | exact bl_refl | assumption | (apply bl_then; assumption) | refine bl_alloc ?_ _ | refine bl_drew ?_ | refine bl_drewN ?_ _)))).mono ?_
      rintro e w1 ⟨A1, c1, A2, c2, rfl, hN1, hD1, hb1⟩
      have hbw1 : Below w.heap.size w w1 := by (repeat (first | exact bl_refl | assumption | (apply bl_then; assumption) | refine bl_alloc ?_ _ | refine bl_drew ?_ | refine bl_drewN ?_ _))
      have hK1 := hK.below (show Below _ _ w1 by (repeat (first | exact bl_refl | assumption | (apply bl_then; assumption) | refine bl_alloc ?_ _ | refine bl_drew ?_ | refine bl_drewN ?_ _)))
      clear fhK
      go_wp2_with (refine wpList_store_blk (Blk.new w1 27 #[.slice none 0 0, .slice none 0 0]) rfl _ _ _ rfl rfl rfl (by rfl) (by kernel_rfl) (by kernel_rfl) ?_; intro w2 hT2 hc2; have hb2 : Below w1.heap.size w1 w2 := ((Chg.of_below (bl_alloc bl_refl _)).trans hc2).below (by simp) (Nat.le_refl _); have fhK := (hK1.below hb2).facts)
      clear hc2
      go_wp2_with fail
      refine (shuttleHole_any _).mono ?_
      rintro e w3 ⟨rfl, hb3⟩
      go_wp2
      go_ret
      exact ⟨rfl, bl_then hb3 (bl_then hb2 hbw1)⟩
  obtain ⟨rfl, h8⟩ := hs
  obtain ⟨g1, g2, hE⟩ := tok_true htb
  have t8 : (8 < (D.length : Int)) = False := eq_false (by omega)
  obtain ⟨eN, eD⟩ := torn_nets hE
  have HE := Lib.hid hE
  have HEN := Lib.hid eN
  have HED := Lib.hid eD
  have hp := tmod_near (n := bx) (m := 100) (by decide)
  have hq := tmod_near (n := bY) (m := 100) (by decide)
  obtain ⟨p, hpp⟩ : ∃ p, bx.tmod 100 = p := ⟨_, rfl⟩
  obtain ⟨q, hqq⟩ : ∃ q, bY.tmod 100 = q := ⟨_, rfl⟩
  rw [hpp] at hp
  rw [hqq] at hq
  have HP8 := Lib.hid h8
  clear htb g2 hE eN eD h8
  go_enter Tryz.func3, Tryz.ntmps3
  go_wp2_with fail
  refine (sT _ (by (repeat (first | exact bl_refl | assumption | (apply bl_then; assumption) | refine bl_alloc ?_ _ | refine bl_drew ?_ | refine bl_drewN ?_ _)))).mono ?_
  rintro e w1 ⟨A1, c1, A2, c2, rfl, hN1, hD1, hb1⟩
  have hK1 := hK.below (show Below _ _ w1 by (repeat (first | exact bl_refl | assumption | (apply bl_then; assumption) | refine bl_alloc ?_ _ | refine bl_drew ?_ | refine bl_drewN ?_ _)))
  have hA1 := hA.below (show Below _ _ w1 by (repeat (first | exact bl_refl | assumption | (apply bl_then; assumption) | refine bl_alloc ?_ _ | refine bl_drew ?_ | refine bl_drewN ?_ _)))
  have hbw1 : Below w.heap.size w w1 := by (repeat (first | exact bl_refl | assumption | (apply bl_then; assumption) | refine bl_alloc ?_ _ | refine bl_drew ?_ | refine bl_drewN ?_ _))
  clear hb1 hK fhK hA fhA
  go_upto_region 4 with (refine wpList_store_blk (Blk.new w1 27 #[.slice none 0 0, .slice none 0 0]) rfl _ _ _ rfl rfl rfl (by rfl) (by kernel_rfl) (by kernel_rfl) ?_; intro w2 hT2 hc2; have hb2 : Below w1.heap.size w1 w2 := ((Chg.of_below (bl_alloc bl_refl _)).trans hc2).below (by simp) (Nat.le_refl _); have hK2 := hK1.below hb2; have hA2 := hA1.below hb2; have fhK := hK2.facts; have fhA := hA2.facts)
  have hbw2 := bl_then hb2 hbw1
  have hN2 := hN1.below hb2
  have hD2 := hD1.below hb2
  clear hc2 hK1 hA1 hN1 hD1 hb2 hbw1
  go_upto_if 68 with (refine wpList_store_blk (Blk.new w2 32 #[.int .i64 0, .int .i64 0]) rfl _ _ _ rfl rfl rfl (by rfl) (by kernel_rfl) (by kernel_rfl) ?_; intro w3 hP3 hc3; have hb3 : Below w2.heap.size w2 w3 := ((Chg.of_below (bl_alloc bl_refl _)).trans hc3).below (by simp) (Nat.le_refl _); have fP := hP3.facts)
  go_cut [7] from 39 (fun s7 wx => ∃ X : Int, s7 = .pointer (some ⟨w2.heap.size, 0, none⟩) ∧ Blk wx w2.heap.size 32 #[.int .i64 X, .int .i64 q] ∧ (-100 ≤ X ∧ X ≤ 100) ∧ (X + q) % 2 = 0 ∧ Below w2.heap.size w2 wx)
  case first =>
    by_cases hpar : (p + q).tmod 2 = 0
    · have t3 : ((p + q).tmod 2 != 0) = false := by simp [hpar]
      have HR : Hid ((p + q) % 2 = 0) := (par_iff _).1 hpar
      clear hpar
      go_wp2_with fail
      go_meet
      case rel => exact ⟨p, rfl, hP3, by omega, HR.out, hb3⟩
    · have t3 : ((p + q).tmod 2 != 0) = true := by simp [hpar]
      have HR : Hid (¬ (p + q) % 2 = 0) := fun e => hpar ((par_iff _).2 e)
      clear hpar
      go_wp2_with fail
      go_meet
      case rel => exact ⟨p + 1, rfl, hP3.set_ 0 _, by omega, by have := HR.out; omega, bl_set hb3 (by simp) _⟩
  case rest =>
    as_aux_lemma =>
      obtain ⟨X, rfl, hP, hX, hXq, hbc⟩ := hcut
      have hbwc := bl_then hbc hbw2
      have hKc := hK2.below hbc
      have hTc := hT2.below hbc
      have hNc := hN2.below hbc
      have hDc := hD2.below hbc
      clear hbc hbw2 hK2 hA2 fhK fhA fP hT2 hN2 hD2 hP3 hb3 hc3 hpp hqq hp
      have hkn : knotE X q = 0 := knotE_yes (by omega) (by omega) hXq
      have HKN := Lib.hid hkn
      have HXQ := Lib.hid hXq
      clear hkn hXq
      have fhK := hKc.facts
      go_upto_region 8 with fail
      obtain ⟨w8, hw8⟩ : ∃ W, ((wc.alloc (.cells #[.slice none 0 0, .slice none 0 0] 27)).alloc (.cells #[.slice none 0 0, .slice none 0 0] 27)).alloc (.cells #[.slice none 0 0, .slice none 0 0] 27) = W := ⟨_, rfl⟩
      have h8 : Blk w8 wc.heap.size 27 #[.slice none 0 0, .slice none 0 0] := by rw [← hw8]; exact ((Blk.new wc _ _).alloc _).alloc _
      have h9 : Blk w8 (wc.heap.size + 1) 27 #[.slice none 0 0, .slice none 0 0] := by rw [← hw8]; exact (Blk.new1 wc _ _ _).alloc _
      have h10 : Blk w8 (wc.heap.size + 1 + 1) 27 #[.slice none 0 0, .slice none 0 0] := by rw [← hw8]; exact Blk.new2 wc _ _ _ _
      have hz8 : w8.heap.size = wc.heap.size + 3 := by rw [← hw8]; simp
      have hb8 : Below wc.heap.size wc w8 := by rw [← hw8]; exact bl_alloc (bl_alloc (bl_alloc bl_refl _) _) _
      rw [hw8]
      clear hw8
      have hK8 := hKc.below hb8
      clear fhK
      have fhK := hK8.facts
      have hR9 := Blk.new w8 22 #[.slice AN N.length cN, .slice AD D.length cD]
      go_upto_region 9 with fail
      obtain ⟨w9, hw9⟩ : ∃ W, w8.alloc (.cells #[.slice AN N.length cN, .slice AD D.length cD] 22) = W := ⟨_, rfl⟩
      have hb9 : Below w8.heap.size w8 w9 := by rw [← hw9]; exact bl_alloc bl_refl _
      have hz9 : w9.heap.size = wc.heap.size + 4 := by rw [← hw9]; simp; omega
      rw [hw9] at hR9 ⊢
      rw [hz8] at hR9
      have h8' := h8.below hb9
      have h9' := h9.below hb9
      have h10' := h10.below hb9
      have hbc9 : Below wc.heap.size wc w9 := by (repeat (first | exact bl_refl | assumption | (apply bl_then; assumption) | refine bl_alloc ?_ _ | refine bl_drew ?_ | refine bl_drewN ?_ _))
      obtain ⟨L1, hL1⟩ : ∃ L, N.map (shB (X, q)) = L := ⟨_, rfl⟩
      obtain ⟨L2, hL2⟩ : ∃ L, mirN N = L := ⟨_, rfl⟩
      obtain ⟨L3, hL3⟩ : ∃ L, turnN 2 N = L := ⟨_, rfl⟩
      obtain ⟨E1, hE1⟩ : ∃ L, D.map (shB (X, q)) = L := ⟨_, rfl⟩
      obtain ⟨E2, hE2⟩ : ∃ L, mirN D = L := ⟨_, rfl⟩
      obtain ⟨E3, hE3⟩ : ∃ L, turnN 2 D = L := ⟨_, rfl⟩
      have HL := Lib.hid (And.intro hL1 (And.intro hL2 (And.intro hL3 (And.intro hE1 (And.intro hE2 hE3)))))
      have m2 := fun W z (p : SlB W z N) => aMirror N W p HEN.out
      have m3 := fun W z (p : SlB W z N) => aTurn N 2 W p HEN.out
      have n2 := fun W z (p : SlB W z D) => aMirror D W p HED.out
      have n3 := fun W z (p : SlB W z D) => aTurn D 2 W p HED.out
      rw [show qN 2 = 2 from rfl, hL3] at m3
      rw [show qN 2 = 2 from rfl, hE3] at n3
      rw [hL2] at m2
      rw [hE2] at n2
      clear hL2 hL3 hE2 hE3 hw9 h8 h9 h10 hK8 fhK hz8 hb8 hb9
      have lN1 : N.length ≤ 24 := by omega
      have lD1 : D.length ≤ 24 := by have := HP8.out; omega
      by_cases hin : allIn L1 = true
      rotate_left
      · have hin' : allIn L1 = false := by simpa using hin
        have m1 := fun W z (p : SlB W z N) => bShift N X q W p HEN.out HKN.out (by rw [hL1]; exact hin')
        clear hin hin' hL1 hE1
        go_loopw [79] (fun i wr => i = .int .i64 0 ∧ Below wc.heap.size wc wr ∧ Blk wr (wc.heap.size + 3) 22 #[.slice AN N.length cN, .slice AD D.length cD]) (fun _ _ => 0)
        case atStart => exact ⟨rfl, hbc9, hR9⟩
        case round =>
          obtain ⟨rfl, hbr, hRr⟩ := hrel
          obtain ⟨wo, rfl⟩ : ∃ x, x = wr := ⟨_, rfl⟩
          have hbwo := bl_then hbr hbwc
          have fR := hRr.facts
          have hPo := hP.below hbr
          have fP := hPo.facts
          go_upto_region 11 with fail
          refine wp_region_ords [0, 2] [(1, false), (3, false), (4, false), (5, true), (6, true), (7, false)] [8] (by kernel_rfl) (by kernel_rfl) (fun d _ _ _ _ h => by cases d <;> exact h) ?_
          simp only [List.map_cons, List.map_nil, List.getD_cons_zero, List.getD_cons_succ]
          repeat (go_big_quiet_step (fail))
          refine wpQuiet_nil ?_
          refine wpMid_run rfl (fun K hK => ?_)
          go_simp
          refine (sbars_any N _ (hN.below (by (repeat (first | exact bl_refl | assumption | (apply bl_then; assumption) | refine bl_alloc ?_ _ | refine bl_drew ?_ | refine bl_drewN ?_ _)))) lN).mono ?_
          rintro e w11 ⟨v11, rfl, hC11, hb11⟩
          refine hK _ _ (by (repeat (first | exact bl_refl | assumption | (apply bl_then; assumption) | refine bl_alloc ?_ _ | refine bl_drew ?_ | refine bl_drewN ?_ _))) ?_
          clear hK K
          have hPo_w11 := hPo.below (show Below _ _ w11 by (repeat (first | exact bl_refl | assumption | (apply bl_then; assumption) | refine bl_alloc ?_ _ | refine bl_drew ?_ | refine bl_drewN ?_ _)))
          have fhPo_w11 := hPo_w11.facts
          refine wpMid_run rfl (fun K hK => ?_)
          go_simp
          refine (m1 _ _ (hC11.rd bc_len)).mono ?_
          rintro e w12 ⟨v12, rfl, hS12, hb12⟩
          refine hK _ _ (by (repeat (first | exact bl_refl | assumption | (apply bl_then; assumption) | refine bl_alloc ?_ _ | refine bl_drew ?_ | refine bl_drewN ?_ _))) ?_
          clear hK K
          refine wpMid_run rfl (fun K hK => ?_)
          go_simp
          refine hK _ _ (by (repeat (first | exact bl_refl | assumption | (apply bl_then; assumption) | refine bl_alloc ?_ _ | refine bl_drew ?_ | refine bl_drewN ?_ _))) ?_
          clear hK K
          refine wpMid_take rfl ?_
          intro K hK
          go_big_quiet_op
          go_big_quiet_on
          refine wpMid_take rfl ?_
          intro K hK
          go_big_quiet_op
          go_big_quiet_on
          refine wpMid_run rfl (fun K hK => ?_)
          go_simp
          refine hK _ _ (by (repeat (first | exact bl_refl | assumption | (apply bl_then; assumption) | refine bl_alloc ?_ _ | refine bl_drew ?_ | refine bl_drewN ?_ _))) ?_
          clear hK K
          refine wpMid_nil ?_
          go_wp2_with fail
          refine (sbars_any N _ (hN.below (by (repeat (first | exact bl_refl | assumption | (apply bl_then; assumption) | refine bl_alloc ?_ _ | refine bl_drew ?_ | refine bl_drewN ?_ _)))) lN).mono ?_
          rintro e w13 ⟨v13, rfl, hC13, hb13⟩
          go_wp2_with fail
          refine (m2 _ _ (hC13.rd bc_len)).mono ?_
          rintro e w14 ⟨v14, rfl, hM14, hb14⟩
          go_wp2_with fail
          refine (sbars_any N _ (hN.below (by (repeat (first | exact bl_refl | assumption | (apply bl_then; assumption) | refine bl_alloc ?_ _ | refine bl_drew ?_ | refine bl_drewN ?_ _)))) lN).mono ?_
          rintro e w15 ⟨v15, rfl, hC15, hb15⟩
          go_wp2_with fail
          refine (m3 _ _ (hC15.rd bc_len)).mono ?_
          rintro e w16 ⟨v16, rfl, hM16, hb16⟩
          go_wp2_with fail
          refine (shuttleHole_any _).mono ?_
          rintro e w17 ⟨rfl, hb17⟩
          go_wp2
          go_ret
          exact ⟨rfl, by (repeat (first | exact bl_refl | assumption | (apply bl_then; assumption) | refine bl_alloc ?_ _ | refine bl_drew ?_ | refine bl_drewN ?_ _))⟩
      have m1 := fun W z (p : SlB W z N) => aShift N X q W p HEN.out HKN.out (by rw [hL1]; exact hin)
      have n1 := fun W z (p : SlB W z D) => aShift D X q W p HED.out HKN.out (allIn_sub (torn_ok HE.out).sub (by rw [hL1]; exact hin))
      have HIN := Lib.hid hin
      rw [hL1] at m1
      rw [hE1] at n1
      have hET : tornE L1 E1 = 0 := by rw [← hL1, ← hE1]; exact sh_tornE HXQ.out HE.out (by rw [hL1]; exact hin)
      have hEM : tornE L2 E2 = 0 := by rw [← HL.out.2.1, ← HL.out.2.2.2.2.1]; exact mN_tornE HE.out
      have hEU : tornE L3 E3 = 0 := by rw [← HL.out.2.2.1, ← HL.out.2.2.2.2.2]; exact tu_tornE HE.out
      have c1 := fun W z (q : SlB W z L1) => aNet L1 W q (torn_nets hET).1
      have c2 := fun W z (q : SlB W z L2) => aNet L2 W q (torn_nets hEM).1
      have c3 := fun W z (q : SlB W z L3) => aNet L3 W q (torn_nets hEU).1
      have d1 := fun W z (q : SlB W z E1) => aNet E1 W q (torn_nets hET).2
      have d2 := fun W z (q : SlB W z E2) => aNet E2 W q (torn_nets hEM).2
      have d3 := fun W z (q : SlB W z E3) => aNet E3 W q (torn_nets hEU).2
      have HET := Lib.hid hET
      have HEM := Lib.hid hEM
      have HEU := Lib.hid hEU
      clear hin hL1 hE1 hET hEM hEU
      go_loopw [79] (fun i wr => ∃ k : Nat, k ≤ 2 ∧ i = .int .i64 k ∧ movR L1 L2 L3 E1 E2 E3 wc.heap.size (wc.heap.size + 1) (wc.heap.size + 1 + 1) w9.heap.size k wr ∧ Below wc.heap.size wc wr ∧ w9.heap.size ≤ wr.heap.size ∧ Blk wr (wc.heap.size + 3) 22 #[.slice AN N.length cN, .slice AD D.length cD]) (fun i _ => 2 - (intOf i).toNat)
      case atStart => exact ⟨0, Nat.zero_le _, rfl, ⟨_, _, _, _, _, _, h8', h9', h10', fun h => by omega, fun h => by omega⟩, hbc9, Nat.le_refl _, hR9⟩
      case round =>
        obtain ⟨k, hk, rfl, ⟨a8, b8, a9, b9, a10, b10, m8, m9, m10, hM1, hM2⟩, hbr, hgr, hRr⟩ := hrel
        obtain ⟨wo, rfl⟩ : ∃ x, x = wr := ⟨_, rfl⟩
        have hbwo := bl_then hbr hbwc
        by_cases h0 : k = 0
        · as_aux_lemma =>
            subst h0
            clear hM1 hM2 n1 n2 n3 d1 d2 d3
            have fR := hRr.facts
            have hPo := hP.below hbr
            have fP := hPo.facts
            go_upto_region 11 with fail
            refine wp_region_ords [0, 2] [(1, false), (3, false), (4, false), (5, true), (6, true), (7, false)] [8] (by kernel_rfl) (by kernel_rfl) (fun d _ _ _ _ h => by cases d <;> exact h) ?_
            simp only [List.map_cons, List.map_nil, List.getD_cons_zero, List.getD_cons_succ]
            repeat (go_big_quiet_step (fail))
            refine wpQuiet_nil ?_
            refine wpMid_run rfl (fun K hK => ?_)
            go_simp
            refine (sbars_any N _ (hN.below (by (repeat (first | exact bl_refl | assumption | (apply bl_then; assumption) | refine bl_alloc ?_ _ | refine bl_drew ?_ | refine bl_drewN ?_ _)))) lN).mono ?_
            rintro e w11 ⟨v11, rfl, hC11, hb11⟩
            refine hK _ _ (by (repeat (first | exact bl_refl | assumption | (apply bl_then; assumption) | refine bl_alloc ?_ _ | refine bl_drew ?_ | refine bl_drewN ?_ _))) ?_
            clear hK K
            have hPo_w11 := hPo.below (show Below _ _ w11 by (repeat (first | exact bl_refl | assumption | (apply bl_then; assumption) | refine bl_alloc ?_ _ | refine bl_drew ?_ | refine bl_drewN ?_ _)))
            have fhPo_w11 := hPo_w11.facts
            refine wpMid_run rfl (fun K hK => ?_)
            go_simp
            refine (m1 _ _ (hC11.rd bc_len)).mono ?_
            rintro e w12 ⟨v12, rfl, hS12, hb12⟩
            refine hK _ _ (by (repeat (first | exact bl_refl | assumption | (apply bl_then; assumption) | refine bl_alloc ?_ _ | refine bl_drew ?_ | refine bl_drewN ?_ _))) ?_
            clear hK K
            refine wpMid_run rfl (fun K hK => ?_)
            go_simp
            refine hK _ _ (by (repeat (first | exact bl_refl | assumption | (apply bl_then; assumption) | refine bl_alloc ?_ _ | refine bl_drew ?_ | refine bl_drewN ?_ _))) ?_
            clear hK K
            refine wpMid_take rfl ?_
            intro K hK
            go_big_quiet_op
            go_big_quiet_on
            refine wpMid_take rfl ?_
            intro K hK
            go_big_quiet_op
            go_big_quiet_on
            refine wpMid_run rfl (fun K hK => ?_)
            go_simp
            refine hK _ _ (by (repeat (first | exact bl_refl | assumption | (apply bl_then; assumption) | refine bl_alloc ?_ _ | refine bl_drew ?_ | refine bl_drewN ?_ _))) ?_
            clear hK K
            refine wpMid_nil ?_
            go_wp2_with fail
            refine (sbars_any N _ (hN.below (by (repeat (first | exact bl_refl | assumption | (apply bl_then; assumption) | refine bl_alloc ?_ _ | refine bl_drew ?_ | refine bl_drewN ?_ _)))) lN).mono ?_
            rintro e w13 ⟨v13, rfl, hC13, hb13⟩
            go_wp2_with fail
            refine (m2 _ _ (hC13.rd bc_len)).mono ?_
            rintro e w14 ⟨v14, rfl, hM14, hb14⟩
            go_wp2_with fail
            refine (sbars_any N _ (hN.below (by (repeat (first | exact bl_refl | assumption | (apply bl_then; assumption) | refine bl_alloc ?_ _ | refine bl_drew ?_ | refine bl_drewN ?_ _)))) lN).mono ?_
            rintro e w15 ⟨v15, rfl, hC15, hb15⟩
            go_wp2_with fail
            refine (m3 _ _ (hC15.rd bc_len)).mono ?_
            rintro e w16 ⟨v16, rfl, hT16, hb16⟩
            obtain ⟨X12, x12, rfl⟩ := hS12.shape
            obtain ⟨X14, x14, rfl⟩ := hM14.shape
            obtain ⟨X16, x16, rfl⟩ := hT16.shape
            go_wp2_with fail
            refine (c1 _ _ ((hS12.rd bc_len).below (by (repeat (first | exact bl_refl | assumption | (apply bl_then; assumption) | refine bl_alloc ?_ _ | refine bl_drew ?_ | refine bl_drewN ?_ _))))).mono ?_
            rintro e w17 ⟨rfl, hb17⟩
            go_wp2_with fail
            refine (c2 _ _ ((hM14.rd bc_len).below (by (repeat (first | exact bl_refl | assumption | (apply bl_then; assumption) | refine bl_alloc ?_ _ | refine bl_drew ?_ | refine bl_drewN ?_ _))))).mono ?_
            rintro e w18 ⟨rfl, hb18⟩
            go_wp2_with fail
            refine (c3 _ _ ((hT16.rd bc_len).below (by (repeat (first | exact bl_refl | assumption | (apply bl_then; assumption) | refine bl_alloc ?_ _ | refine bl_drew ?_ | refine bl_drewN ?_ _))))).mono ?_
            rintro e w19 ⟨rfl, hb19⟩
            have k16 : Below w16.heap.size w16 w19 := by (repeat (first | exact bl_refl | assumption | (apply bl_then; assumption) | refine bl_alloc ?_ _ | refine bl_drew ?_ | refine bl_drewN ?_ _))
            have k14 : Below w14.heap.size w14 w19 := by (repeat (first | exact bl_refl | assumption | (apply bl_then; assumption) | refine bl_alloc ?_ _ | refine bl_drew ?_ | refine bl_drewN ?_ _))
            have k12 : Below w12.heap.size w12 w19 := by (repeat (first | exact bl_refl | assumption | (apply bl_then; assumption) | refine bl_alloc ?_ _ | refine bl_drew ?_ | refine bl_drewN ?_ _))
            have hbo : Below wo.heap.size wo w19 := by (repeat (first | exact bl_refl | assumption | (apply bl_then; assumption) | refine bl_alloc ?_ _ | refine bl_drew ?_ | refine bl_drewN ?_ _))
            have q8 := m8.below hbo
            have q9 := m9.below hbo
            have q10 := m10.below hbo
            have f8 := q8.facts
            have f9 := q9.facts
            have f10 := q10.facts
            go_wp2
            obtain ⟨p8, p9, p10, hch⟩ := set3 0 (.slice X12 L1.length x12) (.slice X14 L2.length x14) (.slice X16 L3.length x16) q8 q9 q10 (by omega) (by omega) (by omega)
            have z1 : w9.heap.size ≤ w11.heap.size := Nat.le_trans hgr (Below.size (show Below wo.heap.size wo w11 by (repeat (first | exact bl_refl | assumption | (apply bl_then; assumption) | refine bl_alloc ?_ _ | refine bl_drew ?_ | refine bl_drewN ?_ _))))
            have z2 : w9.heap.size ≤ w13.heap.size := Nat.le_trans hgr (Below.size (show Below wo.heap.size wo w13 by (repeat (first | exact bl_refl | assumption | (apply bl_then; assumption) | refine bl_alloc ?_ _ | refine bl_drew ?_ | refine bl_drewN ?_ _))))
            have z3 : w9.heap.size ≤ w15.heap.size := Nat.le_trans hgr (Below.size (show Below wo.heap.size wo w15 by (repeat (first | exact bl_refl | assumption | (apply bl_then; assumption) | refine bl_alloc ?_ _ | refine bl_drew ?_ | refine bl_drewN ?_ _))))
            have z4 : w9.heap.size ≤ w19.heap.size := Nat.le_trans hgr hbo.size
            have zS : ∀ k ∈ [wc.heap.size, wc.heap.size + 1, wc.heap.size + 1 + 1], k < w9.heap.size := by simp; omega
            refine ⟨⟨1, by omega, rfl, ⟨_, _, _, _, _, _, p8, p9, p10, fun _ => ⟨?_, ?_, ?_⟩, fun h => by omega⟩, ?_, ?_, ?_⟩, by simp [intOf]⟩
            · exact (((hS12.below k12).base_mono z1).chg hch zS)
            · exact (((hM14.below k14).base_mono z2).chg hch zS)
            · exact (((hT16.below k16).base_mono z3).chg hch zS)
            · exact bl_set (bl_set (bl_set (bl_then hbo hbr) (by simp) _) (by simp) _) (by simp; omega) _
            · simpa using z4
            · exact (hRr.below hbo).chg hch (by simp)
        by_cases h1 : k = 1
        · as_aux_lemma =>
            subst h1
            clear m1 m2 m3 c1 c2 c3 hM2
            obtain ⟨o8, o9, o10⟩ := hM1 (Nat.le_refl _)
            clear hM1
            have fR := hRr.facts
            have hPo := hP.below hbr
            have fP := hPo.facts
            go_upto_region 11 with fail
            refine wp_region_ords [0, 2] [(1, false), (3, false), (4, false), (5, true), (6, true), (7, false)] [8] (by kernel_rfl) (by kernel_rfl) (fun d _ _ _ _ h => by cases d <;> exact h) ?_
            simp only [List.map_cons, List.map_nil, List.getD_cons_zero, List.getD_cons_succ]
            repeat (go_big_quiet_step (fail))
            refine wpQuiet_nil ?_
            refine wpMid_run rfl (fun K hK => ?_)
            go_simp
            refine (sbars_any D _ (hD.below (by (repeat (first | exact bl_refl | assumption | (apply bl_then; assumption) | refine bl_alloc ?_ _ | refine bl_drew ?_ | refine bl_drewN ?_ _)))) lD).mono ?_
            rintro e w11 ⟨v11, rfl, hC11, hb11⟩
            refine hK _ _ (by (repeat (first | exact bl_refl | assumption | (apply bl_then; assumption) | refine bl_alloc ?_ _ | refine bl_drew ?_ | refine bl_drewN ?_ _))) ?_
            clear hK K
            have hPo_w11 := hPo.below (show Below _ _ w11 by (repeat (first | exact bl_refl | assumption | (apply bl_then; assumption) | refine bl_alloc ?_ _ | refine bl_drew ?_ | refine bl_drewN ?_ _)))
            have fhPo_w11 := hPo_w11.facts
            refine wpMid_run rfl (fun K hK => ?_)
            go_simp
            refine (n1 _ _ (hC11.rd bc_len)).mono ?_
            rintro e w12 ⟨v12, rfl, hS12, hb12⟩
            refine hK _ _ (by (repeat (first | exact bl_refl | assumption | (apply bl_then; assumption) | refine bl_alloc ?_ _ | refine bl_drew ?_ | refine bl_drewN ?_ _))) ?_
            clear hK K
            refine wpMid_run rfl (fun K hK => ?_)
            go_simp
            refine hK _ _ (by (repeat (first | exact bl_refl | assumption | (apply bl_then; assumption) | refine bl_alloc ?_ _ | refine bl_drew ?_ | refine bl_drewN ?_ _))) ?_
            clear hK K
            refine wpMid_take rfl ?_
            intro K hK
            go_big_quiet_op
            go_big_quiet_on
            refine wpMid_take rfl ?_
            intro K hK
            go_big_quiet_op
            go_big_quiet_on
            refine wpMid_run rfl (fun K hK => ?_)
            go_simp
            refine hK _ _ (by (repeat (first | exact bl_refl | assumption | (apply bl_then; assumption) | refine bl_alloc ?_ _ | refine bl_drew ?_ | refine bl_drewN ?_ _))) ?_
            clear hK K
            refine wpMid_nil ?_
            go_wp2_with fail
            refine (sbars_any D _ (hD.below (by (repeat (first | exact bl_refl | assumption | (apply bl_then; assumption) | refine bl_alloc ?_ _ | refine bl_drew ?_ | refine bl_drewN ?_ _)))) lD).mono ?_
            rintro e w13 ⟨v13, rfl, hC13, hb13⟩
            go_wp2_with fail
            refine (n2 _ _ (hC13.rd bc_len)).mono ?_
            rintro e w14 ⟨v14, rfl, hM14, hb14⟩
            go_wp2_with fail
            refine (sbars_any D _ (hD.below (by (repeat (first | exact bl_refl | assumption | (apply bl_then; assumption) | refine bl_alloc ?_ _ | refine bl_drew ?_ | refine bl_drewN ?_ _)))) lD).mono ?_
            rintro e w15 ⟨v15, rfl, hC15, hb15⟩
            go_wp2_with fail
            refine (n3 _ _ (hC15.rd bc_len)).mono ?_
            rintro e w16 ⟨v16, rfl, hT16, hb16⟩
            obtain ⟨X12, x12, rfl⟩ := hS12.shape
            obtain ⟨X14, x14, rfl⟩ := hM14.shape
            obtain ⟨X16, x16, rfl⟩ := hT16.shape
            go_wp2_with fail
            refine (d1 _ _ ((hS12.rd bc_len).below (by (repeat (first | exact bl_refl | assumption | (apply bl_then; assumption) | refine bl_alloc ?_ _ | refine bl_drew ?_ | refine bl_drewN ?_ _))))).mono ?_
            rintro e w17 ⟨rfl, hb17⟩
            go_wp2_with fail
            refine (d2 _ _ ((hM14.rd bc_len).below (by (repeat (first | exact bl_refl | assumption | (apply bl_then; assumption) | refine bl_alloc ?_ _ | refine bl_drew ?_ | refine bl_drewN ?_ _))))).mono ?_
            rintro e w18 ⟨rfl, hb18⟩
            go_wp2_with fail
            refine (d3 _ _ ((hT16.rd bc_len).below (by (repeat (first | exact bl_refl | assumption | (apply bl_then; assumption) | refine bl_alloc ?_ _ | refine bl_drew ?_ | refine bl_drewN ?_ _))))).mono ?_
            rintro e w19 ⟨rfl, hb19⟩
            have k16 : Below w16.heap.size w16 w19 := by (repeat (first | exact bl_refl | assumption | (apply bl_then; assumption) | refine bl_alloc ?_ _ | refine bl_drew ?_ | refine bl_drewN ?_ _))
            have k14 : Below w14.heap.size w14 w19 := by (repeat (first | exact bl_refl | assumption | (apply bl_then; assumption) | refine bl_alloc ?_ _ | refine bl_drew ?_ | refine bl_drewN ?_ _))
            have k12 : Below w12.heap.size w12 w19 := by (repeat (first | exact bl_refl | assumption | (apply bl_then; assumption) | refine bl_alloc ?_ _ | refine bl_drew ?_ | refine bl_drewN ?_ _))
            have hbo : Below wo.heap.size wo w19 := by (repeat (first | exact bl_refl | assumption | (apply bl_then; assumption) | refine bl_alloc ?_ _ | refine bl_drew ?_ | refine bl_drewN ?_ _))
            have q8 := m8.below hbo
            have q9 := m9.below hbo
            have q10 := m10.below hbo
            have f8 := q8.facts
            have f9 := q9.facts
            have f10 := q10.facts
            go_wp2
            obtain ⟨p8, p9, p10, hch⟩ := set3 1 (.slice X12 E1.length x12) (.slice X14 E2.length x14) (.slice X16 E3.length x16) q8 q9 q10 (by omega) (by omega) (by omega)
            have z1 : w9.heap.size ≤ w11.heap.size := Nat.le_trans hgr (Below.size (show Below wo.heap.size wo w11 by (repeat (first | exact bl_refl | assumption | (apply bl_then; assumption) | refine bl_alloc ?_ _ | refine bl_drew ?_ | refine bl_drewN ?_ _))))
            have z2 : w9.heap.size ≤ w13.heap.size := Nat.le_trans hgr (Below.size (show Below wo.heap.size wo w13 by (repeat (first | exact bl_refl | assumption | (apply bl_then; assumption) | refine bl_alloc ?_ _ | refine bl_drew ?_ | refine bl_drewN ?_ _))))
            have z3 : w9.heap.size ≤ w15.heap.size := Nat.le_trans hgr (Below.size (show Below wo.heap.size wo w15 by (repeat (first | exact bl_refl | assumption | (apply bl_then; assumption) | refine bl_alloc ?_ _ | refine bl_drew ?_ | refine bl_drewN ?_ _))))
            have z4 : w9.heap.size ≤ w19.heap.size := Nat.le_trans hgr hbo.size
            have zS : ∀ k ∈ [wc.heap.size, wc.heap.size + 1, wc.heap.size + 1 + 1], k < w9.heap.size := by simp; omega
            refine ⟨⟨2, by omega, rfl, ⟨_, _, _, _, _, _, p8, p9, p10, fun _ => ⟨?_, ?_, ?_⟩, fun _ => ⟨?_, ?_, ?_⟩⟩, ?_, ?_, ?_⟩, by simp [intOf]⟩
            · exact (o8.below hbo).chg hch zS
            · exact (o9.below hbo).chg hch zS
            · exact (o10.below hbo).chg hch zS
            · exact (((hS12.below k12).base_mono z1).chg hch zS)
            · exact (((hM14.below k14).base_mono z2).chg hch zS)
            · exact (((hT16.below k16).base_mono z3).chg hch zS)
            · exact bl_set (bl_set (bl_set (bl_then hbo hbr) (by simp) _) (by simp) _) (by simp; omega) _
            · simpa using z4
            · exact (hRr.below hbo).chg hch (by simp)
        obtain rfl : k = 2 := by omega
        obtain ⟨o8, o9, o10⟩ := hM1 (by omega)
        obtain ⟨o8', o9', o10'⟩ := hM2 (by omega)
        clear hM1 hM2 h0 h1 hk m1 m2 m3 n1 n2 n3 c1 c2 c3 d1 d2 d3 hRr h8' h9' h10' hR9
        obtain ⟨Y8, y8, rfl⟩ := o8.shape
        obtain ⟨Y9, y9, rfl⟩ := o9.shape
        obtain ⟨Y10, y10, rfl⟩ := o10.shape
        obtain ⟨Z8, z8, rfl⟩ := o8'.shape
        obtain ⟨Z9, z9, rfl⟩ := o9'.shape
        obtain ⟨Z10, z10, rfl⟩ := o10'.shape
        replace o8 := o8.rd bc_len
        replace o9 := o9.rd bc_len
        replace o10 := o10.rd bc_len
        replace o8' := o8'.rd bc_len
        replace o9' := o9'.rd bc_len
        replace o10' := o10'.rd bc_len
        have hE := HE.out
        have hok := torn_ok hE
        have hsD : ∀ b ∈ D, Sided b := fun b hb => (hok.dam.ok b hb).2.2
        have sr := sh_run (d := (X, q)) hE (by rw [HL.out.1, HL.out.2.2.2.1]; exact HET.out)
        have st := sh_trim (d := (X, q)) 2 hE (by rw [HL.out.1, HL.out.2.2.2.1]; exact HET.out)
        rw [HL.out.1, HL.out.2.2.2.1] at sr st
        obtain ⟨lt2, ltB⟩ := least_in hE
        have rnB := run_near hE
        have ru := fun W z z' (q : SlB W z N) (q' : SlB W z' D) => prun_any N D W q q'
        have rv := fun W z z' (q : SlB W z L1) (q' : SlB W z' E1) => prun_any L1 E1 W q q'
        have tu := fun W z z' (q : SlB W z N) (q' : SlB W z' D) => trim_any N D 2 W q q'
        have tv := fun W z z' (q : SlB W z L1) (q' : SlB W z' E1) => trim_any L1 E1 2 W q q'
        rw [sr.1, sr.2] at rv
        rw [st.1, st.2] at tv
        obtain ⟨R, hR⟩ : ∃ L, runL N D = L := ⟨_, rfl⟩
        obtain ⟨R', hR'⟩ : ∃ L, R.map (shK (X, q)) = L := ⟨_, rfl⟩
        obtain ⟨T, hT⟩ : ∃ L, leastL N D 2 = L := ⟨_, rfl⟩
        obtain ⟨T', hT'⟩ : ∃ L, T.map (shB (X, q)) = L := ⟨_, rfl⟩
        obtain ⟨eR, heR⟩ : ∃ n, runE N D = n := ⟨_, rfl⟩
        obtain ⟨eT, heT⟩ : ∃ n, leastE N D 2 = n := ⟨_, rfl⟩
        rw [hR] at rnB
        rw [hT] at lt2 ltB
        rw [hR, heR] at ru
        rw [hR, hR', heR] at rv
        rw [hT, heT] at tu
        rw [hT, hT', heT] at tv
        obtain ⟨nr, hnr⟩ : ∃ n, R.length = n := ⟨_, rfl⟩
        have hnr' : R'.length = nr := by rw [← hR', List.length_map, hnr]
        obtain ⟨nt, hnt⟩ : ∃ n, T.length = n := ⟨_, rfl⟩
        have hnt' : T'.length = nt := by rw [← hT', List.length_map, hnt]
        rw [hnt] at lt2
        have HR := Lib.hid (And.intro hnr hnr')
        have HT := Lib.hid (And.intro hnt hnt')
        have HRM := Lib.hid hR'
        have HTM := Lib.hid hT'
        have HRB := Lib.hid rnB
        have HTB := Lib.hid ltB
        have rdE : readyR N D = rdyB D := by unfold readyR; rw [if_pos hE]
        have rmE : readyR L2 E2 = rdyB D := by unfold readyR; rw [if_pos HEM.out, ← HL.out.2.2.2.2.1, mN_rdy hE]
        have ruE : readyR L3 E3 = rdyB E3 := by unfold readyR; rw [if_pos HEU.out]
        have r1 := fun W z z' (q : SlB W z N) (q' : SlB W z' D) => pready_any N D W q q'
        have r2 := fun W z z' (q : SlB W z L2) (q' : SlB W z' E2) => pready_any L2 E2 W q q'
        have r3 := fun W z z' (q : SlB W z L3) (q' : SlB W z' E3) => pready_any L3 E3 W q q'
        rw [hE, rdE] at r1
        rw [HEM.out, rmE] at r2
        rw [HEU.out, ruE] at r3
        have hrd : (∀ k, cnt (legsAt D k) ≠ 4) → rdyB E3 = rdyB D := fun h4 => by rw [← HL.out.2.2.2.2.2]; exact tu_rdy hE h4
        have kd := fun W z z' (q : SlB W z N) (q' : SlB W z' D) => pkinds_any N D W q q'
        rw [show kindsL N D = (holeK D).map (legOf D) by unfold kindsL; rw [if_pos hE], hE] at kd
        obtain ⟨l, hl⟩ : ∃ l, (holeK D).map (legOf D) = l := ⟨_, rfl⟩
        have hop := openL_new hsD hl
        have hleg : ∀ x ∈ l, x.2.2 < 6 ∧ ((x.2.2 == 2) = (x.2.1 == 4)) := fun x hx => by
          rw [← hl] at hx
          obtain ⟨k, hk, rfl⟩ := List.mem_map.1 hx
          have hn := (holeK_mem hsD k).1 hk
          show kix (legsAt D k) < 6 ∧ (kix (legsAt D k) == 2) = (cnt (legsAt D k) == 4)
          rcases leg_cases' hn with ⟨h1, h2⟩ | ⟨h1, h2 | h2 | h2⟩ | ⟨h1, h2⟩ | ⟨h1, h2⟩ <;> rw [h1, h2] <;> decide
        rw [hl] at kd
        obtain ⟨b1, hb1⟩ : ∃ b, rdyB D = b := ⟨_, rfl⟩
        obtain ⟨b3, hb3⟩ : ∃ b, rdyB E3 = b := ⟨_, rfl⟩
        rw [hb1] at r1 r2 hrd
        rw [hb3] at r3 hrd
        have HRD := Lib.hid (fun h => hrd (hop.1 h))
        have HLG := Lib.hid hleg
        obtain ⟨nl, hnl⟩ : ∃ n, l.length = n := ⟨_, rfl⟩
        have HNL := Lib.hid hnl
        have hnl2 : nl ≤ 100 := by rw [← hnl, ← hl, List.length_map]; have := hole_len (D := D); omega
        clear hE hok hsD sr st rnB ltB hR hR' hT hT' heR heT hnr hnr' hnt hnt' rdE rmE ruE hrd hl hop hleg hb1 hb3 hnl
        have hTo := hTc.below hbr
        have hPo := hP.below hbr
        have hNo := hNc.below hbr
        have hDo := hDc.below hbr
        have fT := hTo.facts
        have f8 := m8.facts
        as_aux_lemma =>
          go_wp2_with fail
          refine (ru _ _ _ hNo hDo).mono ?_
          rintro e w22 ⟨vR, rfl, hR22, hb22⟩
          obtain ⟨AR, cR, rfl⟩ := hR22.shape
          replace hR22 := hR22.rd kc_len
          rw [HR.out.1] at hR22 ⊢
          have fT8 := (m8.below hb22).facts
          clear f8
          go_wp2_with fail
          refine (rv _ _ _ (o8.below (by (repeat (first | exact bl_refl | assumption | (apply bl_then; assumption) | refine bl_alloc ?_ _ | refine bl_drew ?_ | refine bl_drewN ?_ _)))) (o8'.below (by (repeat (first | exact bl_refl | assumption | (apply bl_then; assumption) | refine bl_alloc ?_ _ | refine bl_drew ?_ | refine bl_drewN ?_ _))))).mono ?_
          rintro e w23 ⟨vV, rfl, hR23, hb23⟩
          obtain ⟨AV, cV, rfl⟩ := hR23.shape
          replace hR23 := hR23.rd kc_len
          rw [HR.out.2] at hR23 ⊢
          have hb23o : Below wo.heap.size wo w23 := by (repeat (first | exact bl_refl | assumption | (apply bl_then; assumption) | refine bl_alloc ?_ _ | refine bl_drew ?_ | refine bl_drewN ?_ _))
          have fT' := (hTo.below hb23o).facts
          clear fT fT8
          go_wp2_with fail
          refine (tu _ _ _ (hNo.below hb23o) (hDo.below hb23o)).mono ?_
          rintro e w24 ⟨vT, rfl, hT24, hb24⟩
          obtain ⟨AT, cT, rfl⟩ := hT24.shape
          replace hT24 := hT24.rd bc_len
          rw [HT.out.1] at hT24 ⊢
          have hb24o := bl_then hb24 hb23o
          have fT8 := (m8.below hb24o).facts
          clear fT'
          go_wp2_with fail
          refine (tv _ _ _ (o8.below hb24o) (o8'.below hb24o)).mono ?_
          rintro e w25 ⟨vW, rfl, hT25, hb25⟩
          obtain ⟨AW, cW, rfl⟩ := hT25.shape
          replace hT25 := hT25.rd bc_len
          rw [HT.out.2] at hT25 ⊢
          have hb25o := bl_then hb25 hb24o
          have R25 := (hR22.below hb23).below (bl_then hb25 hb24)
          have V25 := hR23.below (bl_then hb25 hb24)
          have T25 := hT24.below hb25
          clear fT8 hb22 hb23 hb24 hb25 hb23o hb24o hR22 hR23 hT24
          obtain ⟨AR', cR', heR, hlR, hmR, hrR⟩ := id R25
          obtain ⟨AV', cV', heV, _, _, hrV⟩ := id V25
          obtain ⟨AT', cT', heT, _, _, hrT⟩ := id T25
          obtain ⟨AW', cW', heW, _, _, hrW⟩ := id hT25
          obtain ⟨rfl, i1, rfl⟩ : AR = AR' ∧ nr = R.length ∧ cR = cR' := by simpa using heR
          obtain ⟨rfl, i2, rfl⟩ : AV = AV' ∧ nr = R'.length ∧ cV = cV' := by simpa using heV
          obtain ⟨rfl, i3, rfl⟩ : AT = AT' ∧ nt = T.length ∧ cT = cT' := by simpa using heT
          obtain ⟨rfl, i4, rfl⟩ : AW = AW' ∧ nt = T'.length ∧ cW = cW' := by simpa using heW
          clear heR heV heT heW R25 V25 T25 hT25 i1 i2 i3 i4
          have hnrm : nr ≤ maxLen := by rw [← HR.out.1]; exact Nat.le_trans hlR hmR
          unfold maxLen at hnrm
          clear hlR hmR
          have t26 : (2 < (nt : Int)) = False := eq_false (by omega)
          go_upto_region 29 with fail
          as_aux_lemma =>
            go_loopw [191] (fun i wr => ∃ k : Nat, k ≤ nr ∧ i = .int .i64 k ∧ Below w25.heap.size w25 wr) (fun i _ => nr - (intOf i).toNat)
            case atStart => exact ⟨0, Nat.zero_le _, rfl, bl_refl⟩
            case round =>
              obtain ⟨k, hk, rfl, hbr1⟩ := hrel
              obtain ⟨w26, rfl⟩ : ∃ x, x = wr := ⟨_, rfl⟩
              by_cases hlt : k < nr
              · have k1 : k < R.length := by rw [HR.out.1]; exact hlt
                have k2 : k < R'.length := by rw [HR.out.2]; exact hlt
                obtain ⟨gR, oR, rfl, hgR, e0, e1⟩ := (hrR.below hbr1).knot k1
                obtain ⟨gV, oV, rfl, hgV, e0', e1'⟩ := (hrV.below hbr1).knot k2
                have hx := HRB.out _ (List.getElem_mem k1)
                have hm : R'[k] = shK (X, q) R[k] := by have := HRM.out; subst this; simp
                obtain ⟨⟨px, py⟩, hz⟩ : ∃ z, R[k] = z := ⟨_, rfl⟩
                rw [hm, hz] at e0' e1'
                rw [hz] at e0 e1 hx
                unfold shK at e0' e1'
                simp only at e0 e1 e0' e1' hx
                have m1 : IntKind.i64.wrap (px + X) = px + X := by rw [IntWalk.i64_in _ (by omega)]
                have m2 : IntKind.i64.wrap (py + q) = py + q := by rw [IntWalk.i64_in _ (by omega)]
                have hbq : beqK (px + X) (py + q) (px + X) (py + q) = true := by simp [beqK]
                have fP := (hPo.below (bl_then hbr1 hb25o)).facts
                clear hm hz hx k1 k2
                go_upto_region 31 with fail
                refine wp_region_ords [0, 1, 2, 3, 4, 5, 6, 7, 8, 9, 10, 11, 12, 13, 14, 15, 16, 17, 18, 19, 20, 21] [] [] (by kernel_rfl) (by kernel_rfl) (fun d _ _ _ _ h => by cases d <;> exact h) ?_
                simp only [List.map_cons, List.map_nil, List.getD_cons_zero, List.getD_cons_succ]
                repeat (go_big_quiet_step (fail))
                refine wpQuiet_nil ?_
                refine wpMid_nil ?_
                go_wp2
                go_roundw
                case rel => exact ⟨k + 1, by omega, by go_num, bl_drew hbr1⟩
                case measure => simp [intOf]; omega
              · obtain rfl : k = nr := by omega
                clear hrR hrV hk hlt
                go_upto_region 35 with fail
                as_aux_lemma =>
                  go_loopw [219] (fun i wr => ∃ k : Nat, k ≤ nt ∧ i = .int .i64 k ∧ Below w26.heap.size w26 wr) (fun i _ => nt - (intOf i).toNat)
                  case atStart => exact ⟨0, Nat.zero_le _, rfl, bl_refl⟩
                  case round =>
                    obtain ⟨k, hk, rfl, hbr2⟩ := hrel
                    obtain ⟨w27, rfl⟩ : ∃ x, x = wr := ⟨_, rfl⟩
                    by_cases hlt : k < nt
                    · have k1 : k < T.length := by rw [HT.out.1]; exact hlt
                      have k2 : k < T'.length := by rw [HT.out.2]; exact hlt
                      obtain ⟨gR, oR, rfl, hgR, e0, e1, e2⟩ := (hrT.below (bl_then hbr2 hbr1)).bar k1
                      obtain ⟨gV, oV, rfl, hgV, e0', e1', e2'⟩ := (hrW.below (bl_then hbr2 hbr1)).bar k2
                      have hx := HTB.out _ (List.getElem_mem k1)
                      have hm : T'[k] = shB (X, q) T[k] := by have := HTM.out; subst this; simp
                      obtain ⟨⟨px, py, ps⟩, hz⟩ : ∃ z, T[k] = z := ⟨_, rfl⟩
                      rw [hm, hz] at e0' e1' e2'
                      rw [hz] at e0 e1 e2 hx
                      unfold shB at e0' e1' e2'
                      unfold BarOk at hx
                      simp only at e0 e1 e2 e0' e1' e2' hx
                      have m1 : IntKind.i64.wrap (px + X) = px + X := by rw [IntWalk.i64_in _ (by omega)]
                      have m2 : IntKind.i64.wrap (py + q) = py + q := by rw [IntWalk.i64_in _ (by omega)]
                      have hbq : beqB (px + X) (py + q) ps (px + X) (py + q) ps = true := by simp [beqB]
                      have fP := (hPo.below (bl_then hbr2 (bl_then hbr1 hb25o))).facts
                      clear hm hz hx k1 k2
                      go_upto_region 37 with fail
                      refine wp_region_ords [0, 1, 2, 3, 4, 5, 6, 7, 8, 9, 10, 11, 12, 13, 14, 15, 16, 17, 18, 19, 20, 21, 22, 23, 24, 25, 26] [] [] (by kernel_rfl) (by kernel_rfl) (fun d _ _ _ _ h => by cases d <;> exact h) ?_
                      simp only [List.map_cons, List.map_nil, List.getD_cons_zero, List.getD_cons_succ]
                      repeat (go_big_quiet_step (fail))
                      refine wpQuiet_nil ?_
                      refine wpMid_nil ?_
                      go_wp2
                      go_roundw
                      case rel => exact ⟨k + 1, by omega, by go_num, bl_drew hbr2⟩
                      case measure => simp [intOf]; omega
                    · obtain rfl : k = nt := by omega
                      clear hrT hrW hk hlt t26
                      have hbo7 := bl_then hbr2 (bl_then hbr1 hb25o)
                      have fT7 := (hTo.below hbo7).facts
                      as_aux_lemma =>
                        go_wp2_with fail
                        refine (r1 _ _ _ (hNo.below hbo7) (hDo.below hbo7)).mono ?_
                        rintro e w30 ⟨rfl, hb30⟩
                        have hbo30 := bl_then hb30 hbo7
                        have f9 := (m9.below hbo30).facts
                        clear fT7
                        go_wp2_with fail
                        refine (r2 _ _ _ (o9.below hbo30) (o9'.below hbo30)).mono ?_
                        rintro e w31 ⟨rfl, hb31⟩
                        have hbo31 := bl_then hb31 hbo30
                        have f10 := (m10.below hbo31).facts
                        clear f9
                        go_wp2_with fail
                        refine (r3 _ _ _ (o10.below hbo31) (o10'.below hbo31)).mono ?_
                        rintro e w32 ⟨rfl, hb32⟩
                        have hbo32 := bl_then hb32 hbo31
                        have fT7 := (hTo.below hbo32).facts
                        clear f10
                        go_wp2_with fail
                        refine (kd _ _ _ (hNo.below hbo32) (hDo.below hbo32)).mono ?_
                        rintro e w33 ⟨vL, rfl, hL33, hb33⟩
                        obtain ⟨AL, cL, rfl⟩ := hL33.shape
                        have hL33' : SlL w33 _ _ := hL33.rd lc_len
                        rw [HNL.out] at hL33' ⊢
                        have hbo33 := bl_then hb33 hbo32
                        obtain ⟨AL', cL', heL, _, _, hrL⟩ := id hL33'
                        obtain ⟨rfl, ij, rfl⟩ : AL = AL' ∧ nl = l.length ∧ cL = cL' := by simpa using heL
                        clear ij heL hL33 hL33' fT7 hb30 hb31 hb32 hb33 hbo7 hbo30 hbo31 hbo32
                        go_upto_region 47 with fail
                        as_aux_lemma =>
                          go_loopw [291] (fun i wr => ∃ k : Nat, k ≤ nl ∧ i = .int .i64 k ∧ Hid (openL l k = false) ∧ Below w33.heap.size w33 wr) (fun i _ => nl - (intOf i).toNat)
                          case atStart => exact ⟨0, Nat.zero_le _, rfl, rfl, bl_refl⟩
                          case round =>
                            obtain ⟨k, hk, rfl, HO, hbr3⟩ := hrel
                            obtain ⟨w34, rfl⟩ : ∃ x, x = wr := ⟨_, rfl⟩
                            have hb34 : Below w.heap.size w w34 := bl_then hbr3 (bl_then hbo33 hbwo)
                            by_cases hlt : k < nl
                            · have k1 : k < l.length := by rw [HNL.out]; exact hlt
                              obtain ⟨gL, oL, rfl, hgL, e0, e1, e2, e3⟩ := (hrL.below hbr3).leg k1
                              obtain ⟨HC1, HC2⟩ := HLG.out _ (List.getElem_mem k1)
                              have HOS := openL_succ k1
                              rw [HO.out, Bool.false_or] at HOS
                              obtain ⟨⟨⟨x, y⟩, c, i⟩, hz⟩ : ∃ z, l[k] = z := ⟨_, rfl⟩
                              rw [hz] at e0 e1 e2 e3 HC1 HC2 HOS
                              simp only at e0 e1 e2 e3 HC1 HC2 HOS
                              rw [← HC2, ← kby_new i HC1] at HOS
                              have hkb : (kby 2).toList = [110, 101, 119] := by simp [kby, ByteArray.toList_eq]
                              rw [hkb] at HOS
                              obtain ⟨t, ht⟩ : ∃ t, ((kby i).toList == [110, 101, 119]) = t := ⟨_, rfl⟩
                              rw [ht] at HOS
                              have HOS' := Lib.hid HOS
                              clear HOS HC2 hkb hz k1
                              have hB1 := Blk.new w34 53 #[.int .i64 x, .int .i64 y, .int .i64 c, kstr i]
                              have fB1 := hB1.facts
                              cases t
                              · go_wp2
                                go_roundw
                                case rel => exact ⟨k + 1, by omega, by go_num, HOS'.out, bl_alloc hbr3 _⟩
                                case measure => simp [intOf]; omega
                              · go_wp2_with fail
                                refine (shuttleHole_any _).mono ?_
                                rintro e w35 ⟨rfl, hb35⟩
                                go_wp2
                                go_ret
                                exact ⟨rfl, by (repeat (first | exact bl_refl | assumption | (apply bl_then; assumption) | refine bl_alloc ?_ _ | refine bl_drew ?_ | refine bl_drewN ?_ _))⟩
                            · obtain rfl : k = nl := by omega
                              have hEq : b3 = b1 := HRD.out (by rw [HNL.out]; exact HO.out)
                              have t9 : (b1 == b3) = true := by rw [hEq]; simp
                              clear hEq hrL
                              go_wp2_with fail
                              refine (shuttleHole_any _).mono ?_
                              rintro e w35 ⟨rfl, hb35⟩
                              go_wp2
                              go_ret
                              exact ⟨rfl, by (repeat (first | exact bl_refl | assumption | (apply bl_then; assumption) | refine bl_alloc ?_ _ | refine bl_drew ?_ | refine bl_drewN ?_ _))⟩
end Go.Proofs.YtpompeancmonbaaGreat
