/- The statement MendParity, walked. Conditions: slices that read as lists. -/
import Derived.Test.YthcnngoaijgnoaaGreatK11
import Derived.Test.YthcnngoaijgnoaaGreatValJ
import Derived.Test.YthcnngoaijgnoaaGreatPpaJ
import Derived.Test.YthcnngoaijgnoaaGreatHwJ
import Derived.Deep.CutRange
import Derived.Test.YthcnngoaijgnoaaGreatOrdkJ
namespace Go.Proofs.YthcnngoaijgnoaaGreat
open Go.RowKit Go.ChangeMaps
set_option maxHeartbeats 16000000
set_option maxRecDepth 100000

theorem kinds_blocks (W : World) : ∃ W6, W6 = (((((W.alloc (.cells #[.string { data := #[116, 104, 114, 101, 101] }] 9)).alloc (.cells #[.string { data := #[115, 105, 100, 101, 114] }, .string { data := #[112, 105, 99, 107] }, .string { data := #[99, 114, 111, 115, 115] }] 9)).alloc (.cells #[.string { data := #[111, 100, 100] }] 9)).alloc (.cells #[.string { data := #[110, 101, 119] }] 9)).alloc
      (.cells #[.slice none 0 0, .slice (some ⟨W.heap.size, 0, none⟩) 1 1, .slice (some ⟨W.heap.size + 1, 0, none⟩) 3 3, .slice (some ⟨W.heap.size + 1 + 1, 0, none⟩) 1 1, .slice (some ⟨W.heap.size + 1 + 1 + 1, 0, none⟩) 1 1] 67)) ∧
    Below W.heap.size W W6 ∧ Blk W6 W.heap.size 9 #[kstr 0] ∧ Blk W6 (W.heap.size + 1) 9 #[kstr 3, kstr 4, kstr 5] ∧ Blk W6 (W.heap.size + 1 + 1) 9 #[kstr 1] ∧ Blk W6 (W.heap.size + 1 + 1 + 1) 9 #[kstr 2] ∧
    Blk W6 (W.heap.size + 1 + 1 + 1 + 1) 67 #[.slice none 0 0, .slice (some ⟨W.heap.size, 0, none⟩) 1 1, .slice (some ⟨W.heap.size + 1, 0, none⟩) 3 3, .slice (some ⟨W.heap.size + 1 + 1, 0, none⟩) 1 1, .slice (some ⟨W.heap.size + 1 + 1 + 1, 0, none⟩) 1 1] := by
  refine ⟨_, rfl, bl_alloc (bl_alloc (bl_alloc (bl_alloc (bl_alloc bl_refl _) _) _) _) _, ?_, ?_, ?_, ?_, ?_⟩
  · exact ((((Blk.new W _ _).alloc _).alloc _).alloc _).alloc _
  · exact (((Blk.new1 W _ _ _).alloc _).alloc _).alloc _
  · exact ((Blk.new2 W _ _ _ _).alloc _).alloc _
  · exact (Blk.new3 W _ _ _ _ _).alloc _
  · have := Blk.new ((((W.alloc (.cells #[.string { data := #[116, 104, 114, 101, 101] }] 9)).alloc (.cells #[.string { data := #[115, 105, 100, 101, 114] }, .string { data := #[112, 105, 99, 107] }, .string { data := #[99, 114, 111, 115, 115] }] 9)).alloc (.cells #[.string { data := #[111, 100, 100] }] 9)).alloc (.cells #[.string { data := #[110, 101, 119] }] 9)) 67 #[.slice none 0 0, .slice (some ⟨W.heap.size, 0, none⟩) 1 1, .slice (some ⟨W.heap.size + 1, 0, none⟩) 3 3, .slice (some ⟨W.heap.size + 1 + 1, 0, none⟩) 1 1, .slice (some ⟨W.heap.size + 1 + 1 + 1, 0, none⟩) 1 1]
    simpa using this
theorem word_ok {c i : Nat} {cI : Int} {W6 : World} {a b d e g : Nat} (h : (c = 1 ∧ i = 0) ∨ (c = 2 ∧ (i = 3 ∨ i = 4 ∨ i = 5)) ∨ (c = 3 ∧ i = 1) ∨ (c = 4 ∧ i = 2)) (hc : cI = (c : Int))
    (h1 : Blk W6 a 9 #[kstr 0]) (h2 : Blk W6 b 9 #[kstr 3, kstr 4, kstr 5]) (h3 : Blk W6 d 9 #[kstr 1]) (h4 : Blk W6 e 9 #[kstr 2])
    (hA : Blk W6 g 67 #[.slice none 0 0, .slice (some ⟨a, 0, none⟩) 1 1, .slice (some ⟨b, 0, none⟩) 3 3, .slice (some ⟨d, 0, none⟩) 1 1, .slice (some ⟨e, 0, none⟩) 1 1]) :
    ∃ gs n, W6.cell? ⟨g, cI.toNat, none⟩ = some (.slice (some ⟨gs, 0, none⟩) n n) ∧ ∀ W, Below W6.heap.size W6 W → Calls Tryz.prog 45 #[.slice (some ⟨gs, 0, none⟩) n n, kstr i] W (RV W (.bool true)) := by
  have key : ∀ (l : List Nat) (gs : Nat), l.length ≤ 10 → hasW l i = true → Blk W6 gs 9 (l.map kstr).toArray → ∀ W, Below W6.heap.size W6 W → Calls Tryz.prog 45 #[.slice (some ⟨gs, 0, none⟩) l.length l.length, kstr i] W (RV W (.bool true)) := fun l gs hl hq hB W hb => by
    have := hasWord_any l i gs l.length W (by omega) (fun k hk => by
      rw [(hB.below hb).cell]
      simp [hk])
    rwa [hq] at this
  subst hc
  rw [hA.cell]
  rcases h with ⟨rfl, rfl⟩ | ⟨rfl, hi⟩ | ⟨rfl, rfl⟩ | ⟨rfl, rfl⟩
  · exact ⟨a, 1, rfl, key [0] a (by decide) (by simp [hasW]) h1⟩
  · exact ⟨b, 3, rfl, key [3, 4, 5] b (by decide) (by rcases hi with rfl | rfl | rfl <;> simp [hasW]) h2⟩
  · exact ⟨d, 1, rfl, key [1] d (by decide) (by simp [hasW]) h3⟩
  · exact ⟨e, 1, rfl, key [2] e (by decide) (by simp [hasW]) h4⟩
theorem mendParity_any {v u : Value} (N D : List Bar) (w : World) (hN : SlB w v N) (hD : SlB w u D) : Calls Tryz.prog 6 #[.agg #[v, u]] w (RV w (.bool true)) := by
  have hN' := hN
  obtain ⟨A1, c1, rfl, _, _, hr1⟩ := hN'
  have hD' := hD
  obtain ⟨A2, c2, rfl, hlc2, hcm2, hr2⟩ := hD'
  clear hr1 hr2
  have hl2 : D.length ≤ maxLen := Nat.le_trans hlc2 hcm2
  unfold maxLen at hl2
  have hB := Blk.new w 24 #[.slice A1 N.length c1, .slice A2 D.length c2]
  have fhB := hB.facts
  have hvl := fun W (hN : SlB W (.slice A1 N.length c1) N) (hD : SlB W (.slice A2 D.length c2) D) => valid_any N D 40 W hN hD
  obtain ⟨qv, hqv⟩ : ∃ q, vldB N D 40 = q := ⟨_, rfl⟩
  simp only [hqv] at hvl
  cases qv
  · clear hqv
    go_enter Tryz.func6, Tryz.ntmps6
    go_wp2_with fail
    refine (hvl _ (hN.below (by (repeat (first | exact bl_refl | assumption | (apply bl_then; assumption) | refine bl_alloc ?_ _ | refine bl_drew ?_ | refine bl_drewN ?_ _)))) (hD.below (by (repeat (first | exact bl_refl | assumption | (apply bl_then; assumption) | refine bl_alloc ?_ _ | refine bl_drew ?_ | refine bl_drewN ?_ _))))).mono ?_
    rintro e w1 ⟨rfl, hb1⟩
    replace hB := hB.below (show Below _ _ w1 by (repeat (first | exact bl_refl | assumption | (apply bl_then; assumption) | refine bl_alloc ?_ _ | refine bl_drew ?_ | refine bl_drewN ?_ _)))
    replace fhB := hB.facts
    go_wp2_with fail
    refine (awake_any _).mono ?_
    rintro e w2 ⟨rfl, hb2⟩
    go_wp2
    go_ret
    exact ⟨rfl, by (repeat (first | exact bl_refl | assumption | (apply bl_then; assumption) | refine bl_alloc ?_ _ | refine bl_drew ?_ | refine bl_drewN ?_ _))⟩
  · obtain ⟨hs, hE⟩ := vld_ok hqv
    clear hqv
    have hok := torn_ok hE
    have hkd : ∀ {v u : Value} (w : World) (hN : SlB w v N) (hD : SlB w u D), Calls Tryz.prog 32 #[.agg #[v, u]] w (RLE w ((holeK D).map (legOf D)) 0) := fun w hN hD => by
      have := pkinds_any N D w hN hD
      rwa [show kindsL N D = (holeK D).map (legOf D) by unfold kindsL; rw [if_pos hE], hE] at this
    have hod : ∀ {v u : Value} (w : World) (hN : SlB w v N) (hD : SlB w u D), Calls Tryz.prog 42 #[.agg #[v, u]] w (RKE w (oddK D) 0) := fun w hN hD => by
      have := podd_any N D w hN hD
      rwa [show oddR N D = oddK D by unfold oddR; rw [if_pos hE], hE] at this
    have hsd : ∀ {v u : Value} (w : World) (hN : SlB w v N) (hD : SlB w u D), Calls Tryz.prog 43 #[.agg #[v, u]] w (RBE w (wout N D) 0) := fun w hN hD => by
      have := sound_any N D w hN hD
      rwa [show soundL N D = wout N D by unfold soundL; rw [if_pos hE], hE] at this
    have hpar := par_ok hok.dam.nodup fun b hb => (hok.dam.ok b hb).2.2
    have hev := odd_even hok.dam.nodup fun b hb => (hok.dam.ok b hb).2.2
    have hll : ((holeK D).map (legOf D)).length ≤ 100 := by rw [List.length_map]; have := hole_len (D := D); omega
    have hol : (oddK D).length ≤ 100 := Nat.le_trans (List.length_filter_le _ _) (by rwa [List.length_map] at hll)
    have hSl := wout_length hok.net.nodup hok.dam.nodup hok.sub
    have hun : ∀ {v u : Value} (w : World) (hS : SlB w v (wout N D)) (hN : SlB w u N), Calls Tryz.prog 44 #[v, u] w (RV w (.bool false)) := fun w hS hN => by
      have := unknown_any (wout N D) N w hS hN
      rwa [unk_sub fun b hb => (wout_mem.1 hb).1] at this
    have hnm : ∀ b ∈ wout N D, hasb D b = false := fun b hb => by
      have := (wout_mem.1 hb).2
      simp [hasb, this]
    obtain ⟨l, hl⟩ : ∃ l, (holeK D).map (legOf D) = l := ⟨_, rfl⟩
    obtain ⟨O, hO⟩ : ∃ O, oddK D = O := ⟨_, rfl⟩
    obtain ⟨S, hS⟩ : ∃ S, wout N D = S := ⟨_, rfl⟩
    simp only [hl, hO, hS] at hkd hod hsd hpar hev hll hol hSl hun hnm
    clear hl hO hS
    have HP := Lib.hid hpar
    have HM := Lib.hid hnm
    have hod2 : ((O.length : Int) % 2 != 0) = false := by simp; omega
    have hsum2 : ((S.length : Int) + (D.length : Int) != (N.length : Int)) = false := by simp; omega
    clear hpar hnm hok hE hev
    go_enter Tryz.func6, Tryz.ntmps6
    go_wp2_with fail
    refine (hvl _ (hN.below (by (repeat (first | exact bl_refl | assumption | (apply bl_then; assumption) | refine bl_alloc ?_ _ | refine bl_drew ?_ | refine bl_drewN ?_ _)))) (hD.below (by (repeat (first | exact bl_refl | assumption | (apply bl_then; assumption) | refine bl_alloc ?_ _ | refine bl_drew ?_ | refine bl_drewN ?_ _))))).mono ?_
    rintro e w1 ⟨rfl, hb1⟩
    replace hB := hB.below (show Below _ _ w1 by (repeat (first | exact bl_refl | assumption | (apply bl_then; assumption) | refine bl_alloc ?_ _ | refine bl_drew ?_ | refine bl_drewN ?_ _)))
    replace fhB := hB.facts
    clear hvl
    go_wp2_with fail
    refine (torn_any N D _ (hN.below (by (repeat (first | exact bl_refl | assumption | (apply bl_then; assumption) | refine bl_alloc ?_ _ | refine bl_drew ?_ | refine bl_drewN ?_ _)))) (hD.below (by (repeat (first | exact bl_refl | assumption | (apply bl_then; assumption) | refine bl_alloc ?_ _ | refine bl_drew ?_ | refine bl_drewN ?_ _)))) (by omega) (by omega)).mono ?_
    rintro e w2 ⟨v2, u2, rfl, hN2, hD2, hb2⟩
    replace hB := hB.below (show Below _ _ w2 by (repeat (first | exact bl_refl | assumption | (apply bl_then; assumption) | refine bl_alloc ?_ _ | refine bl_drew ?_ | refine bl_drewN ?_ _)))
    replace fhB := hB.facts
    go_wp2_with fail
    refine (hkd _ (hN2.rd bc_len) (hD2.rd bc_len)).mono ?_
    rintro e w3 ⟨v3, rfl, hL3, hb3⟩
    replace hB := hB.below (show Below _ _ w3 by (repeat (first | exact bl_refl | assumption | (apply bl_then; assumption) | refine bl_alloc ?_ _ | refine bl_drew ?_ | refine bl_drewN ?_ _)))
    replace fhB := hB.facts
    obtain ⟨A3, c3, rfl⟩ := hL3.shape
    have hL3' : SlL w3 _ _ := hL3.rd lc_len
    have hbw3 : Below w.heap.size w w3 := by (repeat (first | exact bl_refl | assumption | (apply bl_then; assumption) | refine bl_alloc ?_ _ | refine bl_drew ?_ | refine bl_drewN ?_ _))
    clear hN2 hD2 hb1 hb2 hb3 hL3 hkd
    go_wp2_with fail
    refine (torn_any N D _ (hN.below (by (repeat (first | exact bl_refl | assumption | (apply bl_then; assumption) | refine bl_alloc ?_ _ | refine bl_drew ?_ | refine bl_drewN ?_ _)))) (hD.below (by (repeat (first | exact bl_refl | assumption | (apply bl_then; assumption) | refine bl_alloc ?_ _ | refine bl_drew ?_ | refine bl_drewN ?_ _)))) (by omega) (by omega)).mono ?_
    rintro e w4 ⟨v4, u4, rfl, hN4, hD4, hb4⟩
    replace hB := hB.below (show Below _ _ w4 by (repeat (first | exact bl_refl | assumption | (apply bl_then; assumption) | refine bl_alloc ?_ _ | refine bl_drew ?_ | refine bl_drewN ?_ _)))
    replace fhB := hB.facts
    go_wp2_with fail
    refine (hod _ (hN4.rd bc_len) (hD4.rd bc_len)).mono ?_
    rintro e w5 ⟨v5, rfl, hO5, hb5⟩
    replace hB := hB.below (show Below _ _ w5 by (repeat (first | exact bl_refl | assumption | (apply bl_then; assumption) | refine bl_alloc ?_ _ | refine bl_drew ?_ | refine bl_drewN ?_ _)))
    replace fhB := hB.facts
    obtain ⟨A5, c5, rfl⟩ := hO5.shape
    have hO5' : SlK w5 _ _ := hO5.rd kc_len
    have hL5 : SlL w5 _ _ := hL3'.below (by (repeat (first | exact bl_refl | assumption | (apply bl_then; assumption) | refine bl_alloc ?_ _ | refine bl_drew ?_ | refine bl_drewN ?_ _)))
    have hbw5 : Below w.heap.size w w5 := by (repeat (first | exact bl_refl | assumption | (apply bl_then; assumption) | refine bl_alloc ?_ _ | refine bl_drew ?_ | refine bl_drewN ?_ _))
    clear hN4 hD4 hb4 hb5 hO5 hod hL3' hbw3
    go_wp2_with fail
    refine (torn_any N D _ (hN.below (by (repeat (first | exact bl_refl | assumption | (apply bl_then; assumption) | refine bl_alloc ?_ _ | refine bl_drew ?_ | refine bl_drewN ?_ _)))) (hD.below (by (repeat (first | exact bl_refl | assumption | (apply bl_then; assumption) | refine bl_alloc ?_ _ | refine bl_drew ?_ | refine bl_drewN ?_ _)))) (by omega) (by omega)).mono ?_
    rintro e w6 ⟨v6, u6, rfl, hN6, hD6, hb6⟩
    replace hB := hB.below (show Below _ _ w6 by (repeat (first | exact bl_refl | assumption | (apply bl_then; assumption) | refine bl_alloc ?_ _ | refine bl_drew ?_ | refine bl_drewN ?_ _)))
    replace fhB := hB.facts
    go_wp2_with fail
    refine (hsd _ (hN6.rd bc_len) (hD6.rd bc_len)).mono ?_
    rintro e w7 ⟨v7, rfl, hS7, hb7⟩
    replace hB := hB.below (show Below _ _ w7 by (repeat (first | exact bl_refl | assumption | (apply bl_then; assumption) | refine bl_alloc ?_ _ | refine bl_drew ?_ | refine bl_drewN ?_ _)))
    replace fhB := hB.facts
    obtain ⟨A7, c7, rfl⟩ := hS7.shape
    have hS7' : SlB w7 _ _ := hS7.rd bc_len
    have hL7 : SlL w7 _ _ := hL5.below (by (repeat (first | exact bl_refl | assumption | (apply bl_then; assumption) | refine bl_alloc ?_ _ | refine bl_drew ?_ | refine bl_drewN ?_ _)))
    have hO7 : SlK w7 _ _ := hO5'.below (by (repeat (first | exact bl_refl | assumption | (apply bl_then; assumption) | refine bl_alloc ?_ _ | refine bl_drew ?_ | refine bl_drewN ?_ _)))
    have hbw7 : Below w.heap.size w w7 := by (repeat (first | exact bl_refl | assumption | (apply bl_then; assumption) | refine bl_alloc ?_ _ | refine bl_drew ?_ | refine bl_drewN ?_ _))
    clear hN6 hD6 hb6 hb7 hS7 hsd hL5 hO5' hbw5
    go_wp2_with fail
    refine (hun _ hS7' (hN.below (by (repeat (first | exact bl_refl | assumption | (apply bl_then; assumption) | refine bl_alloc ?_ _ | refine bl_drew ?_ | refine bl_drewN ?_ _))))).mono ?_
    rintro e w8 ⟨rfl, hb8⟩
    replace hB := hB.below (show Below _ _ w8 by (repeat (first | exact bl_refl | assumption | (apply bl_then; assumption) | refine bl_alloc ?_ _ | refine bl_drew ?_ | refine bl_drewN ?_ _)))
    replace fhB := hB.facts
    have hS8 : SlB w8 _ _ := hS7'.below (by (repeat (first | exact bl_refl | assumption | (apply bl_then; assumption) | refine bl_alloc ?_ _ | refine bl_drew ?_ | refine bl_drewN ?_ _)))
    have hL8 : SlL w8 _ _ := hL7.below (by (repeat (first | exact bl_refl | assumption | (apply bl_then; assumption) | refine bl_alloc ?_ _ | refine bl_drew ?_ | refine bl_drewN ?_ _)))
    have hO8 : SlK w8 _ _ := hO7.below (by (repeat (first | exact bl_refl | assumption | (apply bl_then; assumption) | refine bl_alloc ?_ _ | refine bl_drew ?_ | refine bl_drewN ?_ _)))
    have hbw8 : Below w.heap.size w w8 := by (repeat (first | exact bl_refl | assumption | (apply bl_then; assumption) | refine bl_alloc ?_ _ | refine bl_drew ?_ | refine bl_drewN ?_ _))
    clear hS7' hL7 hO7 hb8 hun hbw7
    obtain ⟨A3', c3', e3, _, _, hrL⟩ := hL8
    obtain ⟨rfl, rfl⟩ : A3 = A3' ∧ c3 = c3' := by simpa using e3
    obtain ⟨A5', c5', e5, _, _, hrO⟩ := hO8
    obtain ⟨rfl, rfl⟩ : A5 = A5' ∧ c5 = c5' := by simpa using e5
    clear e3 e5
    go_wp2_with fail
    go_loopw [9, 10, 74] (fun s n i wr => ∃ k : Nat, k ≤ l.length ∧ i = .int .i64 k ∧ s = .int .i64 (scL l k) ∧ n = .int .i64 (ocL l k) ∧ Below w8.heap.size w8 wr) (fun _ _ i _ => l.length - (intOf i).toNat)
    case atStart => exact ⟨0, Nat.zero_le _, rfl, rfl, rfl, by (repeat (first | exact bl_refl | assumption | (apply bl_then; assumption) | refine bl_alloc ?_ _ | refine bl_drew ?_ | refine bl_drewN ?_ _))⟩
    case round =>
      obtain ⟨k, hk, rfl, rfl, rfl, hbr⟩ := hrel
      replace hB := hB.below hbr
      replace fhB := hB.facts
      by_cases hlt : k < l.length
      · have hr := hrL.below hbr
        have hrO' := hrO.below hbr
        obtain ⟨b, off, rfl, hb, e0, e1, e2, e3⟩ := hr.leg hlt
        have HC := HP.out.kind k hlt
        have HO := Lib.hid (HP.out.odd k hlt)
        have HS := Lib.hid (scL_succ hlt)
        have HOS := Lib.hid (ocL_succ hlt)
        obtain ⟨⟨⟨x, y⟩, c, i⟩, hx⟩ : ∃ z, l[k] = z := ⟨_, rfl⟩
        have HX := Lib.hid hx
        rw [hx] at e0 e1 e2 e3 HC HO HS HOS
        simp only at e0 e1 e2 e3 HC HO HS HOS
        obtain ⟨cI, hcI⟩ : ∃ z : Int, (c : Int) = z := ⟨_, rfl⟩
        rw [hcI] at e2
        have hsc := HP.out.sc_le k (by omega)
        have hoc := ocL_le l k
        have HC' : (c = 1 ∧ i = 0) ∨ (c = 2 ∧ (i = 3 ∨ i = 4 ∨ i = 5)) ∨ (c = 3 ∧ i = 1) ∨ (c = 4 ∧ i = 2) := HC
        have hlo1 : (cI < 1) = False := by simp; omega
        have hhi4 : (4 < cI) = False := by simp; omega
        have hlo0 : (0 ≤ cI) = True := by simp; omega
        have hhi5 : (cI < 5) = True := by simp; omega
        have HCI := Lib.hid hcI
        have hc04 : 0 ≤ cI ∧ cI ≤ 4 := by omega
        clear HC hx hcI
        have hX0 := Blk.new wr 54 #[.int .i64 x, .int .i64 y, .int .i64 cI, kstr i]
        obtain ⟨W6, hW6, hb6, g1, g2, g3, g4, gA⟩ := kinds_blocks (wr.alloc (.cells #[.int .i64 x, .int .i64 y, .int .i64 cI, kstr i] 54))
        simp only [World.size_alloc] at hW6 g1 g2 g3 g4 gA
        obtain ⟨gs, n, hcA, hwS⟩ := word_ok HC' HCI.out.symm g1 g2 g3 g4 gA
        have hX := hX0.below hb6
        have hb6' : Below wr.heap.size wr W6 := bl_a hb6
        have hAl := gA.lt
        clear hb6 hX0 g1 g2 g3 g4 gA HC'
        have hr6 := hr.below hb6'
        obtain ⟨hbW, k0, k1, k2, k3⟩ := hr6.legAt hlt
        rw [HX.out] at k0 k1 k2 k3
        simp only at k0 k1 k2 k3
        rw [HCI.out] at k2
        go_upto_region 13 with fail
        rw [← hW6]
        clear hW6
        have fX := hX.facts
        replace hB := hB.below hb6'
        replace fhB := hB.facts
        go_cut [144] from 79 to 168 (fun s144 wx => s144 = .bool false ∧ Below W6.heap.size W6 wx)
        case first =>
          by_cases hk0 : k = 0
          · as_aux_lemma =>
              have hkz' : ((0 : Int) < (k : Int)) = False := by simp; omega
              have hkz : (0 < k) = False := by simp; omega
              clear hk0
              refine wp_region_ords [0, 1, 2, 3, 4, 5, 6, 7, 8, 9, 10, 11, 12, 13, 14] [(15, false), (16, false), (17, false), (18, false), (19, false), (20, false), (21, false), (22, true), (23, true), (24, true), (25, true), (26, false), (27, false), (28, false), (29, false), (30, false), (31, false), (32, false), (33, false), (34, true), (35, true), (36, true), (37, true), (38, false), (39, false), (40, false), (41, false), (42, false), (43, false), (44, false), (45, false), (46, true), (47, true), (48, true), (49, true), (50, false), (51, false), (52, false), (53, false), (54, false), (55, false)] [56, 57, 58, 59, 60] (by kernel_rfl) ordParity13 (fun d _ _ _ _ h => by cases d <;> exact h) ?_
              simp only [List.map_cons, List.map_nil, List.getD_cons_zero, List.getD_cons_succ]
              repeat (go_big_quiet_step (fail))
              refine wpQuiet_nil ?_
              refine wpMid_run rfl (fun K hK => ?_)
              go_simp
              refine (hwS _ (by (repeat (first | exact bl_refl | assumption | (apply bl_then; assumption) | refine bl_alloc ?_ _ | refine bl_drew ?_ | refine bl_drewN ?_ _)))).mono ?_
              rintro e w9 ⟨rfl, hb9⟩
              refine hK _ _ (by (repeat (first | exact bl_refl | assumption | (apply bl_then; assumption) | refine bl_alloc ?_ _ | refine bl_drew ?_ | refine bl_drewN ?_ _))) ?_
              clear hK K
              have hX_w9 := hX.below (show Below _ _ w9 by (repeat (first | exact bl_refl | assumption | (apply bl_then; assumption) | refine bl_alloc ?_ _ | refine bl_drew ?_ | refine bl_drewN ?_ _)))
              have fhX_w9 := hX_w9.facts
              refine wpMid_run rfl (fun K hK => ?_)
              go_simp
              refine hK _ _ (by (repeat (first | exact bl_refl | assumption | (apply bl_then; assumption) | refine bl_alloc ?_ _ | refine bl_drew ?_ | refine bl_drewN ?_ _))) ?_
              clear hK K
              refine wpMid_run rfl (fun K hK => ?_)
              go_simp
              refine hK _ _ (by (repeat (first | exact bl_refl | assumption | (apply bl_then; assumption) | refine bl_alloc ?_ _ | refine bl_drew ?_ | refine bl_drewN ?_ _))) ?_
              clear hK K
              refine wpMid_run rfl (fun K hK => ?_)
              go_simp
              refine hK _ _ (by (repeat (first | exact bl_refl | assumption | (apply bl_then; assumption) | refine bl_alloc ?_ _ | refine bl_drew ?_ | refine bl_drewN ?_ _))) ?_
              clear hK K
              refine wpMid_run rfl (fun K hK => ?_)
              go_simp
              refine hK _ _ (by (repeat (first | exact bl_refl | assumption | (apply bl_then; assumption) | refine bl_alloc ?_ _ | refine bl_drew ?_ | refine bl_drewN ?_ _))) ?_
              clear hK K
              refine wpMid_run rfl (fun K hK => ?_)
              go_simp
              refine hK _ _ (by (repeat (first | exact bl_refl | assumption | (apply bl_then; assumption) | refine bl_alloc ?_ _ | refine bl_drew ?_ | refine bl_drewN ?_ _))) ?_
              clear hK K
              refine wpMid_run rfl (fun K hK => ?_)
              go_simp
              refine hK _ _ (by (repeat (first | exact bl_refl | assumption | (apply bl_then; assumption) | refine bl_alloc ?_ _ | refine bl_drew ?_ | refine bl_drewN ?_ _))) ?_
              clear hK K
              refine wpMid_skipT (by kernel_rfl) ?_
              intro K hK
              simp only [Act.put, List.setIfInBounds_toArray, List.set_cons_zero, List.set_cons_succ]
              refine hK _ ?_
              clear hK K
              refine wpMid_skipT (by kernel_rfl) ?_
              intro K hK
              simp only [Act.put, List.setIfInBounds_toArray, List.set_cons_zero, List.set_cons_succ]
              refine hK _ ?_
              clear hK K
              refine wpMid_skipT (by kernel_rfl) ?_
              intro K hK
              simp only [Act.put, List.setIfInBounds_toArray, List.set_cons_zero, List.set_cons_succ]
              refine hK _ ?_
              clear hK K
              refine wpMid_skipT (by kernel_rfl) ?_
              intro K hK
              simp only [Act.put, List.setIfInBounds_toArray, List.set_cons_zero, List.set_cons_succ]
              refine hK _ ?_
              clear hK K
              refine wpMid_skipF (by kernel_rfl) ?_
              intro K hK
              simp only [Act.put, List.setIfInBounds_toArray, List.set_cons_zero, List.set_cons_succ]
              refine hK _ ?_
              clear hK K
              as_aux_lemma =>
                refine wpMid_skipF (by kernel_rfl) ?_
                intro K hK
                simp only [Act.put, List.setIfInBounds_toArray, List.set_cons_zero, List.set_cons_succ]
                refine hK _ ?_
                clear hK K
                refine wpMid_skipF (by kernel_rfl) ?_
                intro K hK
                simp only [Act.put, List.setIfInBounds_toArray, List.set_cons_zero, List.set_cons_succ]
                refine hK _ ?_
                clear hK K
                refine wpMid_skipF (by kernel_rfl) ?_
                intro K hK
                simp only [Act.put, List.setIfInBounds_toArray, List.set_cons_zero, List.set_cons_succ]
                refine hK _ ?_
                clear hK K
                refine wpMid_skipF (by kernel_rfl) ?_
                intro K hK
                simp only [Act.put, List.setIfInBounds_toArray, List.set_cons_zero, List.set_cons_succ]
                refine hK _ ?_
                clear hK K
                refine wpMid_skipF (by kernel_rfl) ?_
                intro K hK
                simp only [Act.put, List.setIfInBounds_toArray, List.set_cons_zero, List.set_cons_succ]
                refine hK _ ?_
                clear hK K
                refine wpMid_skipF (by kernel_rfl) ?_
                intro K hK
                simp only [Act.put, List.setIfInBounds_toArray, List.set_cons_zero, List.set_cons_succ]
                refine hK _ ?_
                clear hK K
                refine wpMid_skipF (by kernel_rfl) ?_
                intro K hK
                simp only [Act.put, List.setIfInBounds_toArray, List.set_cons_zero, List.set_cons_succ]
                refine hK _ ?_
                clear hK K
                refine wpMid_skipT (by kernel_rfl) ?_
                intro K hK
                simp only [Act.put, List.setIfInBounds_toArray, List.set_cons_zero, List.set_cons_succ]
                refine hK _ ?_
                clear hK K
                refine wpMid_skipT (by kernel_rfl) ?_
                intro K hK
                simp only [Act.put, List.setIfInBounds_toArray, List.set_cons_zero, List.set_cons_succ]
                refine hK _ ?_
                clear hK K
                refine wpMid_skipT (by kernel_rfl) ?_
                intro K hK
                simp only [Act.put, List.setIfInBounds_toArray, List.set_cons_zero, List.set_cons_succ]
                refine hK _ ?_
                clear hK K
                refine wpMid_skipT (by kernel_rfl) ?_
                intro K hK
                simp only [Act.put, List.setIfInBounds_toArray, List.set_cons_zero, List.set_cons_succ]
                refine hK _ ?_
                clear hK K
                refine wpMid_skipF (by kernel_rfl) ?_
                intro K hK
                simp only [Act.put, List.setIfInBounds_toArray, List.set_cons_zero, List.set_cons_succ]
                refine hK _ ?_
                clear hK K
                as_aux_lemma =>
                  refine wpMid_skipF (by kernel_rfl) ?_
                  intro K hK
                  simp only [Act.put, List.setIfInBounds_toArray, List.set_cons_zero, List.set_cons_succ]
                  refine hK _ ?_
                  clear hK K
                  refine wpMid_skipF (by kernel_rfl) ?_
                  intro K hK
                  simp only [Act.put, List.setIfInBounds_toArray, List.set_cons_zero, List.set_cons_succ]
                  refine hK _ ?_
                  clear hK K
                  refine wpMid_skipF (by kernel_rfl) ?_
                  intro K hK
                  simp only [Act.put, List.setIfInBounds_toArray, List.set_cons_zero, List.set_cons_succ]
                  refine hK _ ?_
                  clear hK K
                  refine wpMid_skipF (by kernel_rfl) ?_
                  intro K hK
                  simp only [Act.put, List.setIfInBounds_toArray, List.set_cons_zero, List.set_cons_succ]
                  refine hK _ ?_
                  clear hK K
                  refine wpMid_skipF (by kernel_rfl) ?_
                  intro K hK
                  simp only [Act.put, List.setIfInBounds_toArray, List.set_cons_zero, List.set_cons_succ]
                  refine hK _ ?_
                  clear hK K
                  refine wpMid_skipF (by kernel_rfl) ?_
                  intro K hK
                  simp only [Act.put, List.setIfInBounds_toArray, List.set_cons_zero, List.set_cons_succ]
                  refine hK _ ?_
                  clear hK K
                  refine wpMid_skipF (by kernel_rfl) ?_
                  intro K hK
                  simp only [Act.put, List.setIfInBounds_toArray, List.set_cons_zero, List.set_cons_succ]
                  refine hK _ ?_
                  clear hK K
                  refine wpMid_skipT (by kernel_rfl) ?_
                  intro K hK
                  simp only [Act.put, List.setIfInBounds_toArray, List.set_cons_zero, List.set_cons_succ]
                  refine hK _ ?_
                  clear hK K
                  refine wpMid_skipT (by kernel_rfl) ?_
                  intro K hK
                  simp only [Act.put, List.setIfInBounds_toArray, List.set_cons_zero, List.set_cons_succ]
                  refine hK _ ?_
                  clear hK K
                  refine wpMid_skipT (by kernel_rfl) ?_
                  intro K hK
                  simp only [Act.put, List.setIfInBounds_toArray, List.set_cons_zero, List.set_cons_succ]
                  refine hK _ ?_
                  clear hK K
                  refine wpMid_skipT (by kernel_rfl) ?_
                  intro K hK
                  simp only [Act.put, List.setIfInBounds_toArray, List.set_cons_zero, List.set_cons_succ]
                  refine hK _ ?_
                  clear hK K
                  refine wpMid_skipF (by kernel_rfl) ?_
                  intro K hK
                  simp only [Act.put, List.setIfInBounds_toArray, List.set_cons_zero, List.set_cons_succ]
                  refine hK _ ?_
                  clear hK K
                  as_aux_lemma =>
                    refine wpMid_skipF (by kernel_rfl) ?_
                    intro K hK
                    simp only [Act.put, List.setIfInBounds_toArray, List.set_cons_zero, List.set_cons_succ]
                    refine hK _ ?_
                    clear hK K
                    refine wpMid_skipF (by kernel_rfl) ?_
                    intro K hK
                    simp only [Act.put, List.setIfInBounds_toArray, List.set_cons_zero, List.set_cons_succ]
                    refine hK _ ?_
                    clear hK K
                    refine wpMid_skipF (by kernel_rfl) ?_
                    intro K hK
                    simp only [Act.put, List.setIfInBounds_toArray, List.set_cons_zero, List.set_cons_succ]
                    refine hK _ ?_
                    clear hK K
                    refine wpMid_skipF (by kernel_rfl) ?_
                    intro K hK
                    simp only [Act.put, List.setIfInBounds_toArray, List.set_cons_zero, List.set_cons_succ]
                    refine hK _ ?_
                    clear hK K
                    refine wpMid_skipF (by kernel_rfl) ?_
                    intro K hK
                    simp only [Act.put, List.setIfInBounds_toArray, List.set_cons_zero, List.set_cons_succ]
                    refine hK _ ?_
                    clear hK K
                    refine wpMid_nil ?_
                    go_wp2_with fail
                    go_meet
                    case rel => exact ⟨rfl, by (repeat (first | exact bl_refl | assumption | (apply bl_then; assumption) | refine bl_alloc ?_ _ | refine bl_drew ?_ | refine bl_drewN ?_ _))⟩
          · obtain ⟨j, rfl⟩ : ∃ j, k = j + 1 := ⟨k - 1, by omega⟩
            have hkz : ((0 : Int) < ((j + 1 : Nat) : Int)) = True := by simp <;> omega
            clear hk0
            have hlj : j < l.length := by omega
            have hjw : IntKind.i64.wrap (j : Int) = (j : Int) := IntWalk.i64_in _ (by omega)
            have hjl : (j : Int) < (l.length : Int) := by omega
            have hasc := HP.out.asc j hlt
            obtain ⟨⟨⟨xj, yj⟩, cj, ij⟩, hxj⟩ : ∃ z, l[j] = z := ⟨_, rfl⟩
            have HXJ := Lib.hid hxj
            rw [HX.out, hxj] at hasc
            have hasc' : yj < y ∨ yj = y ∧ xj < x := hasc
            obtain ⟨_, m0, m1, m2, m3⟩ := hr6.legAt hlj
            rw [hxj] at m0 m1 m2 m3
            simp only at m0 m1 m2 m3
            clear hasc hxj m2 m3
            have hl9 : ∀ W, Below W6.heap.size W6 W → _ := fun W h => (hr6.below h).legAt hlj
            rcases hasc' with hy | ⟨hyy, hx'⟩
            · as_aux_lemma =>
                have q1 : (y < yj) = False := by simp; omega
                have q2 : (y == yj) = false := by simp; omega
                refine wp_region_ords [0, 1, 2, 3, 4, 5, 6, 7, 8, 9, 10, 11, 12, 13, 14] [(15, false), (16, false), (17, false), (18, false), (19, false), (20, false), (21, false), (22, true), (23, true), (24, true), (25, true), (26, false), (27, false), (28, false), (29, false), (30, false), (31, false), (32, false), (33, false), (34, true), (35, true), (36, true), (37, true), (38, false), (39, false), (40, false), (41, false), (42, false), (43, false), (44, false), (45, false), (46, true), (47, true), (48, true), (49, true), (50, false), (51, false), (52, false), (53, false), (54, false), (55, false)] [56, 57, 58, 59, 60] (by kernel_rfl) ordParity13 (fun d _ _ _ _ h => by cases d <;> exact h) ?_
                simp only [List.map_cons, List.map_nil, List.getD_cons_zero, List.getD_cons_succ]
                repeat (go_big_quiet_step (fail))
                refine wpQuiet_nil ?_
                refine wpMid_run rfl (fun K hK => ?_)
                go_simp
                refine (hwS _ (by (repeat (first | exact bl_refl | assumption | (apply bl_then; assumption) | refine bl_alloc ?_ _ | refine bl_drew ?_ | refine bl_drewN ?_ _)))).mono ?_
                rintro e w9 ⟨rfl, hb9⟩
                refine hK _ _ (by (repeat (first | exact bl_refl | assumption | (apply bl_then; assumption) | refine bl_alloc ?_ _ | refine bl_drew ?_ | refine bl_drewN ?_ _))) ?_
                clear hK K
                have hX_w9 := hX.below (show Below _ _ w9 by (repeat (first | exact bl_refl | assumption | (apply bl_then; assumption) | refine bl_alloc ?_ _ | refine bl_drew ?_ | refine bl_drewN ?_ _)))
                have fhX_w9 := hX_w9.facts
                obtain ⟨_, n0, n1, _, _⟩ := hl9 w9 (by (repeat (first | exact bl_refl | assumption | (apply bl_then; assumption) | refine bl_alloc ?_ _ | refine bl_drew ?_ | refine bl_drewN ?_ _)))
                rw [HXJ.out] at n0 n1
                simp only at n0 n1
                refine wpMid_run rfl (fun K hK => ?_)
                go_simp
                refine hK _ _ (by (repeat (first | exact bl_refl | assumption | (apply bl_then; assumption) | refine bl_alloc ?_ _ | refine bl_drew ?_ | refine bl_drewN ?_ _))) ?_
                clear hK K
                refine wpMid_run rfl (fun K hK => ?_)
                go_simp
                refine hK _ _ (by (repeat (first | exact bl_refl | assumption | (apply bl_then; assumption) | refine bl_alloc ?_ _ | refine bl_drew ?_ | refine bl_drewN ?_ _))) ?_
                clear hK K
                refine wpMid_run rfl (fun K hK => ?_)
                go_simp
                refine hK _ _ (by (repeat (first | exact bl_refl | assumption | (apply bl_then; assumption) | refine bl_alloc ?_ _ | refine bl_drew ?_ | refine bl_drewN ?_ _))) ?_
                clear hK K
                refine wpMid_run rfl (fun K hK => ?_)
                go_simp
                refine hK _ _ (by (repeat (first | exact bl_refl | assumption | (apply bl_then; assumption) | refine bl_alloc ?_ _ | refine bl_drew ?_ | refine bl_drewN ?_ _))) ?_
                clear hK K
                refine wpMid_run rfl (fun K hK => ?_)
                go_simp
                refine hK _ _ (by (repeat (first | exact bl_refl | assumption | (apply bl_then; assumption) | refine bl_alloc ?_ _ | refine bl_drew ?_ | refine bl_drewN ?_ _))) ?_
                clear hK K
                refine wpMid_run rfl (fun K hK => ?_)
                go_simp
                refine hK _ _ (by (repeat (first | exact bl_refl | assumption | (apply bl_then; assumption) | refine bl_alloc ?_ _ | refine bl_drew ?_ | refine bl_drewN ?_ _))) ?_
                clear hK K
                refine wpMid_take rfl ?_
                intro K hK
                go_big_quiet_op
                go_big_quiet_on
                refine wpMid_take rfl ?_
                intro K hK
                go_big_quiet_op
                go_big_quiet_on
                refine wpMid_take rfl ?_
                intro K hK
                go_big_quiet_op
                go_big_quiet_on
                refine wpMid_take rfl ?_
                intro K hK
                go_big_quiet_op
                go_big_quiet_on
                refine wpMid_run rfl (fun K hK => ?_)
                go_simp
                refine hK _ _ (by (repeat (first | exact bl_refl | assumption | (apply bl_then; assumption) | refine bl_alloc ?_ _ | refine bl_drew ?_ | refine bl_drewN ?_ _))) ?_
                clear hK K
                as_aux_lemma =>
                  refine wpMid_run rfl (fun K hK => ?_)
                  go_simp
                  refine hK _ _ (by (repeat (first | exact bl_refl | assumption | (apply bl_then; assumption) | refine bl_alloc ?_ _ | refine bl_drew ?_ | refine bl_drewN ?_ _))) ?_
                  clear hK K
                  refine wpMid_run rfl (fun K hK => ?_)
                  go_simp
                  refine hK _ _ (by (repeat (first | exact bl_refl | assumption | (apply bl_then; assumption) | refine bl_alloc ?_ _ | refine bl_drew ?_ | refine bl_drewN ?_ _))) ?_
                  clear hK K
                  refine wpMid_run rfl (fun K hK => ?_)
                  go_simp
                  refine hK _ _ (by (repeat (first | exact bl_refl | assumption | (apply bl_then; assumption) | refine bl_alloc ?_ _ | refine bl_drew ?_ | refine bl_drewN ?_ _))) ?_
                  clear hK K
                  refine wpMid_run rfl (fun K hK => ?_)
                  go_simp
                  refine hK _ _ (by (repeat (first | exact bl_refl | assumption | (apply bl_then; assumption) | refine bl_alloc ?_ _ | refine bl_drew ?_ | refine bl_drewN ?_ _))) ?_
                  clear hK K
                  refine wpMid_run rfl (fun K hK => ?_)
                  go_simp
                  refine hK _ _ (by (repeat (first | exact bl_refl | assumption | (apply bl_then; assumption) | refine bl_alloc ?_ _ | refine bl_drew ?_ | refine bl_drewN ?_ _))) ?_
                  clear hK K
                  refine wpMid_run rfl (fun K hK => ?_)
                  go_simp
                  refine hK _ _ (by (repeat (first | exact bl_refl | assumption | (apply bl_then; assumption) | refine bl_alloc ?_ _ | refine bl_drew ?_ | refine bl_drewN ?_ _))) ?_
                  clear hK K
                  refine wpMid_run rfl (fun K hK => ?_)
                  go_simp
                  refine hK _ _ (by (repeat (first | exact bl_refl | assumption | (apply bl_then; assumption) | refine bl_alloc ?_ _ | refine bl_drew ?_ | refine bl_drewN ?_ _))) ?_
                  clear hK K
                  refine wpMid_take rfl ?_
                  intro K hK
                  go_big_quiet_op
                  go_big_quiet_on
                  refine wpMid_take rfl ?_
                  intro K hK
                  go_big_quiet_op
                  go_big_quiet_on
                  refine wpMid_take rfl ?_
                  intro K hK
                  go_big_quiet_op
                  go_big_quiet_on
                  refine wpMid_take rfl ?_
                  intro K hK
                  go_big_quiet_op
                  go_big_quiet_on
                  refine wpMid_run rfl (fun K hK => ?_)
                  go_simp
                  refine hK _ _ (by (repeat (first | exact bl_refl | assumption | (apply bl_then; assumption) | refine bl_alloc ?_ _ | refine bl_drew ?_ | refine bl_drewN ?_ _))) ?_
                  clear hK K
                  as_aux_lemma =>
                    refine wpMid_run rfl (fun K hK => ?_)
                    go_simp
                    refine hK _ _ (by (repeat (first | exact bl_refl | assumption | (apply bl_then; assumption) | refine bl_alloc ?_ _ | refine bl_drew ?_ | refine bl_drewN ?_ _))) ?_
                    clear hK K
                    refine wpMid_run rfl (fun K hK => ?_)
                    go_simp
                    refine hK _ _ (by (repeat (first | exact bl_refl | assumption | (apply bl_then; assumption) | refine bl_alloc ?_ _ | refine bl_drew ?_ | refine bl_drewN ?_ _))) ?_
                    clear hK K
                    refine wpMid_run rfl (fun K hK => ?_)
                    go_simp
                    refine hK _ _ (by (repeat (first | exact bl_refl | assumption | (apply bl_then; assumption) | refine bl_alloc ?_ _ | refine bl_drew ?_ | refine bl_drewN ?_ _))) ?_
                    clear hK K
                    refine wpMid_run rfl (fun K hK => ?_)
                    go_simp
                    refine hK _ _ (by (repeat (first | exact bl_refl | assumption | (apply bl_then; assumption) | refine bl_alloc ?_ _ | refine bl_drew ?_ | refine bl_drewN ?_ _))) ?_
                    clear hK K
                    refine wpMid_run rfl (fun K hK => ?_)
                    go_simp
                    refine hK _ _ (by (repeat (first | exact bl_refl | assumption | (apply bl_then; assumption) | refine bl_alloc ?_ _ | refine bl_drew ?_ | refine bl_drewN ?_ _))) ?_
                    clear hK K
                    refine wpMid_run rfl (fun K hK => ?_)
                    go_simp
                    refine hK _ _ (by (repeat (first | exact bl_refl | assumption | (apply bl_then; assumption) | refine bl_alloc ?_ _ | refine bl_drew ?_ | refine bl_drewN ?_ _))) ?_
                    clear hK K
                    refine wpMid_run rfl (fun K hK => ?_)
                    go_simp
                    refine hK _ _ (by (repeat (first | exact bl_refl | assumption | (apply bl_then; assumption) | refine bl_alloc ?_ _ | refine bl_drew ?_ | refine bl_drewN ?_ _))) ?_
                    clear hK K
                    refine wpMid_skipT (by kernel_rfl) ?_
                    intro K hK
                    simp only [Act.put, List.setIfInBounds_toArray, List.set_cons_zero, List.set_cons_succ]
                    refine hK _ ?_
                    clear hK K
                    refine wpMid_skipT (by kernel_rfl) ?_
                    intro K hK
                    simp only [Act.put, List.setIfInBounds_toArray, List.set_cons_zero, List.set_cons_succ]
                    refine hK _ ?_
                    clear hK K
                    refine wpMid_skipT (by kernel_rfl) ?_
                    intro K hK
                    simp only [Act.put, List.setIfInBounds_toArray, List.set_cons_zero, List.set_cons_succ]
                    refine hK _ ?_
                    clear hK K
                    refine wpMid_skipT (by kernel_rfl) ?_
                    intro K hK
                    simp only [Act.put, List.setIfInBounds_toArray, List.set_cons_zero, List.set_cons_succ]
                    refine hK _ ?_
                    clear hK K
                    refine wpMid_skipF (by kernel_rfl) ?_
                    intro K hK
                    simp only [Act.put, List.setIfInBounds_toArray, List.set_cons_zero, List.set_cons_succ]
                    refine hK _ ?_
                    clear hK K
                    as_aux_lemma =>
                      refine wpMid_skipF (by kernel_rfl) ?_
                      intro K hK
                      simp only [Act.put, List.setIfInBounds_toArray, List.set_cons_zero, List.set_cons_succ]
                      refine hK _ ?_
                      clear hK K
                      refine wpMid_skipF (by kernel_rfl) ?_
                      intro K hK
                      simp only [Act.put, List.setIfInBounds_toArray, List.set_cons_zero, List.set_cons_succ]
                      refine hK _ ?_
                      clear hK K
                      refine wpMid_skipF (by kernel_rfl) ?_
                      intro K hK
                      simp only [Act.put, List.setIfInBounds_toArray, List.set_cons_zero, List.set_cons_succ]
                      refine hK _ ?_
                      clear hK K
                      refine wpMid_skipF (by kernel_rfl) ?_
                      intro K hK
                      simp only [Act.put, List.setIfInBounds_toArray, List.set_cons_zero, List.set_cons_succ]
                      refine hK _ ?_
                      clear hK K
                      refine wpMid_skipF (by kernel_rfl) ?_
                      intro K hK
                      simp only [Act.put, List.setIfInBounds_toArray, List.set_cons_zero, List.set_cons_succ]
                      refine hK _ ?_
                      clear hK K
                      refine wpMid_nil ?_
                      go_wp2_with fail
                      go_meet
                      case rel => exact ⟨rfl, by (repeat (first | exact bl_refl | assumption | (apply bl_then; assumption) | refine bl_alloc ?_ _ | refine bl_drew ?_ | refine bl_drewN ?_ _))⟩
            · as_aux_lemma =>
                obtain rfl : y = yj := hyy.symm
                have q3 : (x ≤ xj) = False := by simp; omega
                refine wp_region_ords [0, 1, 2, 3, 4, 5, 6, 7, 8, 9, 10, 11, 12, 13, 14] [(15, false), (16, false), (17, false), (18, false), (19, false), (20, false), (21, false), (22, true), (23, true), (24, true), (25, true), (26, false), (27, false), (28, false), (29, false), (30, false), (31, false), (32, false), (33, false), (34, true), (35, true), (36, true), (37, true), (38, false), (39, false), (40, false), (41, false), (42, false), (43, false), (44, false), (45, false), (46, true), (47, true), (48, true), (49, true), (50, false), (51, false), (52, false), (53, false), (54, false), (55, false)] [56, 57, 58, 59, 60] (by kernel_rfl) ordParity13 (fun d _ _ _ _ h => by cases d <;> exact h) ?_
                simp only [List.map_cons, List.map_nil, List.getD_cons_zero, List.getD_cons_succ]
                repeat (go_big_quiet_step (fail))
                refine wpQuiet_nil ?_
                refine wpMid_run rfl (fun K hK => ?_)
                go_simp
                refine (hwS _ (by (repeat (first | exact bl_refl | assumption | (apply bl_then; assumption) | refine bl_alloc ?_ _ | refine bl_drew ?_ | refine bl_drewN ?_ _)))).mono ?_
                rintro e w9 ⟨rfl, hb9⟩
                refine hK _ _ (by (repeat (first | exact bl_refl | assumption | (apply bl_then; assumption) | refine bl_alloc ?_ _ | refine bl_drew ?_ | refine bl_drewN ?_ _))) ?_
                clear hK K
                have hX_w9 := hX.below (show Below _ _ w9 by (repeat (first | exact bl_refl | assumption | (apply bl_then; assumption) | refine bl_alloc ?_ _ | refine bl_drew ?_ | refine bl_drewN ?_ _)))
                have fhX_w9 := hX_w9.facts
                obtain ⟨_, n0, n1, _, _⟩ := hl9 w9 (by (repeat (first | exact bl_refl | assumption | (apply bl_then; assumption) | refine bl_alloc ?_ _ | refine bl_drew ?_ | refine bl_drewN ?_ _)))
                rw [HXJ.out] at n0 n1
                simp only at n0 n1
                refine wpMid_run rfl (fun K hK => ?_)
                go_simp
                refine hK _ _ (by (repeat (first | exact bl_refl | assumption | (apply bl_then; assumption) | refine bl_alloc ?_ _ | refine bl_drew ?_ | refine bl_drewN ?_ _))) ?_
                clear hK K
                refine wpMid_run rfl (fun K hK => ?_)
                go_simp
                refine hK _ _ (by (repeat (first | exact bl_refl | assumption | (apply bl_then; assumption) | refine bl_alloc ?_ _ | refine bl_drew ?_ | refine bl_drewN ?_ _))) ?_
                clear hK K
                refine wpMid_run rfl (fun K hK => ?_)
                go_simp
                refine hK _ _ (by (repeat (first | exact bl_refl | assumption | (apply bl_then; assumption) | refine bl_alloc ?_ _ | refine bl_drew ?_ | refine bl_drewN ?_ _))) ?_
                clear hK K
                refine wpMid_run rfl (fun K hK => ?_)
                go_simp
                refine hK _ _ (by (repeat (first | exact bl_refl | assumption | (apply bl_then; assumption) | refine bl_alloc ?_ _ | refine bl_drew ?_ | refine bl_drewN ?_ _))) ?_
                clear hK K
                refine wpMid_run rfl (fun K hK => ?_)
                go_simp
                refine hK _ _ (by (repeat (first | exact bl_refl | assumption | (apply bl_then; assumption) | refine bl_alloc ?_ _ | refine bl_drew ?_ | refine bl_drewN ?_ _))) ?_
                clear hK K
                refine wpMid_run rfl (fun K hK => ?_)
                go_simp
                refine hK _ _ (by (repeat (first | exact bl_refl | assumption | (apply bl_then; assumption) | refine bl_alloc ?_ _ | refine bl_drew ?_ | refine bl_drewN ?_ _))) ?_
                clear hK K
                refine wpMid_take rfl ?_
                intro K hK
                go_big_quiet_op
                go_big_quiet_on
                refine wpMid_take rfl ?_
                intro K hK
                go_big_quiet_op
                go_big_quiet_on
                refine wpMid_take rfl ?_
                intro K hK
                go_big_quiet_op
                go_big_quiet_on
                refine wpMid_take rfl ?_
                intro K hK
                go_big_quiet_op
                go_big_quiet_on
                refine wpMid_run rfl (fun K hK => ?_)
                go_simp
                refine hK _ _ (by (repeat (first | exact bl_refl | assumption | (apply bl_then; assumption) | refine bl_alloc ?_ _ | refine bl_drew ?_ | refine bl_drewN ?_ _))) ?_
                clear hK K
                as_aux_lemma =>
                  refine wpMid_run rfl (fun K hK => ?_)
                  go_simp
                  refine hK _ _ (by (repeat (first | exact bl_refl | assumption | (apply bl_then; assumption) | refine bl_alloc ?_ _ | refine bl_drew ?_ | refine bl_drewN ?_ _))) ?_
                  clear hK K
                  refine wpMid_run rfl (fun K hK => ?_)
                  go_simp
                  refine hK _ _ (by (repeat (first | exact bl_refl | assumption | (apply bl_then; assumption) | refine bl_alloc ?_ _ | refine bl_drew ?_ | refine bl_drewN ?_ _))) ?_
                  clear hK K
                  refine wpMid_run rfl (fun K hK => ?_)
                  go_simp
                  refine hK _ _ (by (repeat (first | exact bl_refl | assumption | (apply bl_then; assumption) | refine bl_alloc ?_ _ | refine bl_drew ?_ | refine bl_drewN ?_ _))) ?_
                  clear hK K
                  refine wpMid_run rfl (fun K hK => ?_)
                  go_simp
                  refine hK _ _ (by (repeat (first | exact bl_refl | assumption | (apply bl_then; assumption) | refine bl_alloc ?_ _ | refine bl_drew ?_ | refine bl_drewN ?_ _))) ?_
                  clear hK K
                  refine wpMid_run rfl (fun K hK => ?_)
                  go_simp
                  refine hK _ _ (by (repeat (first | exact bl_refl | assumption | (apply bl_then; assumption) | refine bl_alloc ?_ _ | refine bl_drew ?_ | refine bl_drewN ?_ _))) ?_
                  clear hK K
                  refine wpMid_run rfl (fun K hK => ?_)
                  go_simp
                  refine hK _ _ (by (repeat (first | exact bl_refl | assumption | (apply bl_then; assumption) | refine bl_alloc ?_ _ | refine bl_drew ?_ | refine bl_drewN ?_ _))) ?_
                  clear hK K
                  refine wpMid_run rfl (fun K hK => ?_)
                  go_simp
                  refine hK _ _ (by (repeat (first | exact bl_refl | assumption | (apply bl_then; assumption) | refine bl_alloc ?_ _ | refine bl_drew ?_ | refine bl_drewN ?_ _))) ?_
                  clear hK K
                  refine wpMid_take rfl ?_
                  intro K hK
                  go_big_quiet_op
                  go_big_quiet_on
                  refine wpMid_take rfl ?_
                  intro K hK
                  go_big_quiet_op
                  go_big_quiet_on
                  refine wpMid_take rfl ?_
                  intro K hK
                  go_big_quiet_op
                  go_big_quiet_on
                  refine wpMid_take rfl ?_
                  intro K hK
                  go_big_quiet_op
                  go_big_quiet_on
                  refine wpMid_run rfl (fun K hK => ?_)
                  go_simp
                  refine hK _ _ (by (repeat (first | exact bl_refl | assumption | (apply bl_then; assumption) | refine bl_alloc ?_ _ | refine bl_drew ?_ | refine bl_drewN ?_ _))) ?_
                  clear hK K
                  as_aux_lemma =>
                    refine wpMid_run rfl (fun K hK => ?_)
                    go_simp
                    refine hK _ _ (by (repeat (first | exact bl_refl | assumption | (apply bl_then; assumption) | refine bl_alloc ?_ _ | refine bl_drew ?_ | refine bl_drewN ?_ _))) ?_
                    clear hK K
                    refine wpMid_run rfl (fun K hK => ?_)
                    go_simp
                    refine hK _ _ (by (repeat (first | exact bl_refl | assumption | (apply bl_then; assumption) | refine bl_alloc ?_ _ | refine bl_drew ?_ | refine bl_drewN ?_ _))) ?_
                    clear hK K
                    refine wpMid_run rfl (fun K hK => ?_)
                    go_simp
                    refine hK _ _ (by (repeat (first | exact bl_refl | assumption | (apply bl_then; assumption) | refine bl_alloc ?_ _ | refine bl_drew ?_ | refine bl_drewN ?_ _))) ?_
                    clear hK K
                    refine wpMid_run rfl (fun K hK => ?_)
                    go_simp
                    refine hK _ _ (by (repeat (first | exact bl_refl | assumption | (apply bl_then; assumption) | refine bl_alloc ?_ _ | refine bl_drew ?_ | refine bl_drewN ?_ _))) ?_
                    clear hK K
                    refine wpMid_run rfl (fun K hK => ?_)
                    go_simp
                    refine hK _ _ (by (repeat (first | exact bl_refl | assumption | (apply bl_then; assumption) | refine bl_alloc ?_ _ | refine bl_drew ?_ | refine bl_drewN ?_ _))) ?_
                    clear hK K
                    refine wpMid_run rfl (fun K hK => ?_)
                    go_simp
                    refine hK _ _ (by (repeat (first | exact bl_refl | assumption | (apply bl_then; assumption) | refine bl_alloc ?_ _ | refine bl_drew ?_ | refine bl_drewN ?_ _))) ?_
                    clear hK K
                    refine wpMid_run rfl (fun K hK => ?_)
                    go_simp
                    refine hK _ _ (by (repeat (first | exact bl_refl | assumption | (apply bl_then; assumption) | refine bl_alloc ?_ _ | refine bl_drew ?_ | refine bl_drewN ?_ _))) ?_
                    clear hK K
                    refine wpMid_take rfl ?_
                    intro K hK
                    go_big_quiet_op
                    go_big_quiet_on
                    refine wpMid_take rfl ?_
                    intro K hK
                    go_big_quiet_op
                    go_big_quiet_on
                    refine wpMid_take rfl ?_
                    intro K hK
                    go_big_quiet_op
                    go_big_quiet_on
                    refine wpMid_take rfl ?_
                    intro K hK
                    go_big_quiet_op
                    go_big_quiet_on
                    refine wpMid_run rfl (fun K hK => ?_)
                    go_simp
                    refine hK _ _ (by (repeat (first | exact bl_refl | assumption | (apply bl_then; assumption) | refine bl_alloc ?_ _ | refine bl_drew ?_ | refine bl_drewN ?_ _))) ?_
                    clear hK K
                    as_aux_lemma =>
                      refine wpMid_run rfl (fun K hK => ?_)
                      go_simp
                      refine hK _ _ (by (repeat (first | exact bl_refl | assumption | (apply bl_then; assumption) | refine bl_alloc ?_ _ | refine bl_drew ?_ | refine bl_drewN ?_ _))) ?_
                      clear hK K
                      refine wpMid_run rfl (fun K hK => ?_)
                      go_simp
                      refine hK _ _ (by (repeat (first | exact bl_refl | assumption | (apply bl_then; assumption) | refine bl_alloc ?_ _ | refine bl_drew ?_ | refine bl_drewN ?_ _))) ?_
                      clear hK K
                      refine wpMid_run rfl (fun K hK => ?_)
                      go_simp
                      refine hK _ _ (by (repeat (first | exact bl_refl | assumption | (apply bl_then; assumption) | refine bl_alloc ?_ _ | refine bl_drew ?_ | refine bl_drewN ?_ _))) ?_
                      clear hK K
                      refine wpMid_run rfl (fun K hK => ?_)
                      go_simp
                      refine hK _ _ (by (repeat (first | exact bl_refl | assumption | (apply bl_then; assumption) | refine bl_alloc ?_ _ | refine bl_drew ?_ | refine bl_drewN ?_ _))) ?_
                      clear hK K
                      refine wpMid_run rfl (fun K hK => ?_)
                      go_simp
                      refine hK _ _ (by (repeat (first | exact bl_refl | assumption | (apply bl_then; assumption) | refine bl_alloc ?_ _ | refine bl_drew ?_ | refine bl_drewN ?_ _))) ?_
                      clear hK K
                      refine wpMid_nil ?_
                      go_wp2_with fail
                      go_meet
                      case rel => exact ⟨rfl, by (repeat (first | exact bl_refl | assumption | (apply bl_then; assumption) | refine bl_alloc ?_ _ | refine bl_drew ?_ | refine bl_drewN ?_ _))⟩
        case rest =>
          as_aux_lemma =>
            obtain ⟨rfl, hbc⟩ := hcut
            replace hX := hX.below hbc
            replace fX := hX.facts
            replace hB := hB.below hbc
            replace fhB := hB.facts
            have hbwc : Below wr.heap.size wr wc := bl_then hbc hb6'
            clear hbc hb6' hr6 k0 k1 k2 k3 hcA hwS hlo1 hhi4 hAl
            by_cases hpar : c % 2 = 1
            · have hp2 : (cI % 2 == 0) = false := by have := HCI.out; simp; omega
              have hodd := HO.out hpar
              obtain ⟨hol', hoe⟩ := List.getElem?_eq_some_iff.1 hodd
              have hrO9 := hrO'.below hbwc
              obtain ⟨ob, ooff, rfl, hob, o0, o1⟩ := hrO9.knot hol'
              rw [hoe] at o0 o1
              simp only at o0 o1
              have hge : (O.length ≤ ocL l k) = False := by simp; omega
              have hbq : beqK x y x y = true := by simp [beqK]
              have HPAR := Lib.hid hpar
              clear hodd hoe hpar
              go_upto_if 152 with fail
              try rw [hp2]
              go_wp2_with fail
              refine wp_region_ords [0, 1, 2, 3, 4, 5, 6, 7, 8, 9, 10, 11, 12] [] [] (by kernel_rfl) (by kernel_rfl) (fun d _ _ _ _ h => by cases d <;> exact h) ?_
              simp only [List.map_cons, List.map_nil, List.getD_cons_zero, List.getD_cons_succ]
              repeat (go_big_quiet_step (fail))
              refine wpQuiet_nil ?_
              refine wpMid_nil ?_
              go_wp2_with fail
              go_roundw
              case rel => exact ⟨k + 1, by omega, by go_num, by rw [HS.out]; have := HCI.out; go_num, by rw [HOS.out, if_pos HPAR.out]; go_num, by (repeat (first | exact bl_refl | assumption | (apply bl_then; assumption) | refine bl_alloc ?_ _ | refine bl_drew ?_ | refine bl_drewN ?_ _))⟩
              case measure => simp [intOf]; omega
            · have hp2 : (cI % 2 == 0) = true := by have := HCI.out; simp; omega
              have HPAR := Lib.hid hpar
              clear hpar
              go_upto_if 152 with fail
              try rw [hp2]
              go_wp2_with fail
              go_roundw
              case rel => exact ⟨k + 1, by omega, by go_num, by rw [HS.out]; have := HCI.out; go_num, by rw [HOS.out, if_neg HPAR.out]; go_num, by (repeat (first | exact bl_refl | assumption | (apply bl_then; assumption) | refine bl_alloc ?_ _ | refine bl_drew ?_ | refine bl_drewN ?_ _))⟩
              case measure => simp [intOf]; omega
      · as_aux_lemma =>
          obtain ⟨wo, rfl⟩ : ∃ wo, wo = wr := ⟨_, rfl⟩
          obtain rfl : k = l.length := by omega
          have hsum : ((scL l l.length : Nat) : Int) = 2 * (D.length : Int) := by rw [HP.out.sum]; omega
          have hodds := HP.out.odds
          rw [hsum, hodds]
          have hSo := hS8.below hbr
          obtain ⟨A7', c7', e7, _, _, hrS⟩ := hSo
          obtain ⟨rfl, rfl⟩ : A7 = A7' ∧ c7 = c7' := by simpa using e7
          have hbwo : Below w.heap.size w wo := bl_then hbr hbw8
          have hDo := hD.below hbwo
          clear e7 hbr hbw8 hrL hrO hsum hodds
          go_wp2_with fail
          go_loopw [171] (fun i wr => ∃ k2 : Nat, k2 ≤ S.length ∧ i = .int .i64 k2 ∧ Below wo.heap.size wo wr) (fun i _ => S.length - (intOf i).toNat)
          case atStart => exact ⟨0, Nat.zero_le _, rfl, bl_refl⟩
          case round =>
            obtain ⟨k2, hk2, rfl, hbq⟩ := hrel
            replace hB := hB.below hbq
            replace fhB := hB.facts
            have hDq := hDo.below hbq
            by_cases hlt2 : k2 < S.length
            · have hrS2 := hrS.below hbq
              obtain ⟨b, off, rfl, hb, e0, e1, e2⟩ := hrS2.bar hlt2
              have hno := HM.out _ (List.getElem_mem hlt2)
              obtain ⟨⟨x, y, s⟩, hx⟩ : ∃ z, S[k2] = z := ⟨_, rfl⟩
              rw [hx] at e0 e1 e2 hno
              simp only at e0 e1 e2
              have hB1 := Blk.new wr 70 #[.int .i64 x, .int .i64 y, .int .i64 s]
              have fhB1 := hB1.facts
              have hB0 := hB.alloc (.cells #[.int .i64 x, .int .i64 y, .int .i64 s] 70)
              have fhB0 := hB0.facts
              have hh : ∀ W, SlB W (.slice A2 D.length c2) D → Calls Tryz.prog 46 #[.slice A2 D.length c2, .agg #[.int .i64 x, .int .i64 y, .int .i64 s]] W (RV W (.bool false)) := fun W h => by
                have := has_any D x y s W h
                rwa [hno] at this
              clear hno hx
              go_wp2_with (go_at_call 46; refine (hh _ (hDq.below (by (repeat (first | exact bl_refl | assumption | (apply bl_then; assumption) | refine bl_alloc ?_ _ | refine bl_drew ?_ | refine bl_drewN ?_ _))))).mono ?_; rintro e w20 ⟨rfl, hb20⟩)
              go_roundw
              case rel => exact ⟨k2 + 1, by omega, by go_num, by (repeat (first | exact bl_refl | assumption | (apply bl_then; assumption) | refine bl_alloc ?_ _ | refine bl_drew ?_ | refine bl_drewN ?_ _))⟩
              case measure => simp [intOf]; omega
            · have hbwr : Below w.heap.size w wr := bl_then hbq hbwo
              clear hbq hbwo
              go_wp2_with fail
              refine (awake_any _).mono ?_
              rintro e w21 ⟨rfl, hb21⟩
              go_wp2
              go_ret
              exact ⟨rfl, by (repeat (first | exact bl_refl | assumption | (apply bl_then; assumption) | refine bl_alloc ?_ _ | refine bl_drew ?_ | refine bl_drewN ?_ _))⟩
end Go.Proofs.YthcnngoaijgnoaaGreat
