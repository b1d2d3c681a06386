/- The reference's Parse, walked. Conditions: bounds. -/
import Derived.Test.YtkkefahobjlagaaGreatDoorQ54
import Derived.Test.YtkkefahobjlagaaGreatDoorQ52
import Derived.Test.YtkkefahobjlagaaGreatDoorQ38
import Derived.Test.YtkkefahobjlagaaGreatDoorQ39
import Derived.Deep.CutRange
namespace Go.Proofs.YtkkefahobjlagaaGreatDoor
open Go.RowKit Go.ChangeMaps
set_option maxHeartbeats 4000000
set_option maxRecDepth 100000
attribute [local go_sem] Oper.semAt_some
def RRF (w : World) (r : List Pan × Int × Int) (e : Ending) (w' : World) : Prop := ∃ v, e = .returned (.tuple #[v, .int .i64 r.2.1, .int .i64 r.2.2]) ∧ SlP w' v r.1 ∧ Below w.heap.size w w'
theorem slp_nil (w : World) : SlP w (.slice none 0 0) [] := ⟨[], Sl.nil_, trivial⟩
theorem rfGo_at {L : List Str} {k : Nat} (hk : k + 1 < L.length) (out : List Pan) (pl : Nat) : rfGo (L.drop k) out pl k = if rfE (splA 32 L[k]) out pl = 0 then rfGo (L.drop (k + 1)) (rfN (splA 32 L[k]) out pl).1 (rfN (splA 32 L[k]) out pl).2 (k + 1) else ([], (k : Int), rfE (splA 32 L[k]) out pl) := by
 rw [List.drop_eq_getElem_cons (show k < L.length by omega), List.drop_eq_getElem_cons hk]
 rfl
theorem rfGo_last {L : List Str} {k : Nat} (hk : k + 1 = L.length) (out : List Pan) (pl : Nat) : rfGo (L.drop k) out pl k = if L[k]'(by omega) ≠ [] then ([], (k : Int), 25) else if 0 < pl then ([], (k : Int), 28) else (out, 0, 0) := by
 rw [List.drop_eq_getElem_cons (show k < L.length by omega), List.drop_of_length_le (by omega)]
 rfl
theorem getD_some {W : List Str} {i : Nat} (h : i < W.length) : W[i]? = some (W.getD i []) := by
 rw [List.getD_eq_getElem?_getD, List.getElem?_eq_getElem h, Option.getD_some]
theorem isP_b (W : List Str) (pl : Nat) : decide (IsP W pl) = (decide (pl = 0) && (decide (W.getD 0 [] = wPan) && (decide (W.length = 3) && (fullB W && decide (0 ≤ numR (W.getD 2 [])))))) := by
 rw [Bool.eq_iff_iff]; simp [IsP]
theorem isE_b (W : List Str) (pl : Nat) : decide (IsE W pl) = (((decide (pl = 1) && decide (W.getD 0 [] = wLeft)) || (decide (0 < pl) && decide (W.getD 0 [] = wRight))) && (decide (W.length = 4) && (fullB W && (decide (0 ≤ numR (W.getD 2 [])) && (decide (W.getD 3 [] = wOut) || decide (W.getD 3 [] = wIn)))))) := by
 rw [Bool.eq_iff_iff]; simp [IsE]
theorem isN_b (W : List Str) (pl : Nat) : decide (IsN W pl) = (decide (0 < pl) && (decide (W.getD 0 [] = wEnd) && decide (W.length = 1))) := by
 rw [Bool.eq_iff_iff]; simp [IsN]
theorem str_eqb (s t : Str) : (({ data := s.toArray } : ByteArray).toList == t) = decide (s = t) := by
 rw [show ({ data := s.toArray } : ByteArray).toList = s by simp [ByteArray.toList_eq]]
 rw [Bool.eq_iff_iff]; simp
theorem rparse_any (s : Str) (w : World) (hs : s.length ≤ 20000) : Calls Tryz.prog 40 #[sV s] w (RRF w (rfR s)) := by
  by_cases hlong : 16384 < s.length
  · have HS : Hid (rfR s = ([], 0, 26)) := by unfold Hid rfR; rw [if_pos hlong]
    have t1 : (16384 < (s.length : Int)) = True := eq_true (by omega)
    unfold sV
    clear hlong
    go_enter Tryz.func40, Tryz.ntmps40
    go_wp2
    go_ret3
    exact ⟨_, by rw [HS.out]; rfl, by rw [HS.out]; exact slp_nil _, by (repeat first|exact J0|assumption|(apply J1;assumption)|apply J2|apply J3|apply J4)⟩
  · have HS : Hid (rfR s = rfGo ((splA 10 s).drop 0) [] 0 0) := by unfold Hid rfR; rw [if_neg hlong]; rfl
    have t1 : (16384 < (s.length : Int)) = False := eq_false (by omega)
    have hs2 : s.length ≤ 16384 := by omega
    have hsp := rsplit_any s 10 10 rfl (by omega) w
    obtain ⟨hL1, hL2⟩ := splA_in 10 s
    have hL3 := splA_ne 10 s
    obtain ⟨L, hL⟩ : ∃ L, splA 10 s = L := ⟨_, rfl⟩
    rw [hL] at HS hsp hL1 hL2 hL3
    have hL0 : 0 < L.length := List.length_pos_iff.2 hL3
    have hLb : L.length ≤ 17000 := by omega
    have HLW : Hid (∀ x ∈ L, x.length ≤ 16384) := fun x hx => by have := hL2 x hx; omega
    unfold sV at hsp ⊢
    clear hlong hL hL1 hL2 hL3
    go_enter Tryz.func40, Tryz.ntmps40
    go_wp2_with fail
    refine (hsp).mono ?_
    rintro e w1 ⟨vA, rfl, hA, hb1⟩
    obtain ⟨AA, cA, rfl⟩ := hA.shape
    obtain ⟨_, _, eA, _, _, rA⟩ := hA.rd strc_len
    obtain ⟨rfl, rfl⟩ : AA = _ ∧ cA = _ := by simpa using eA
    clear hsp t1 eA hA
    go_wp2
    go_loopw [6, 7, 8] (fun s6 s7 s8 wr => ∃ (out : List Pan) (pl k : Nat), k < L.length ∧ pl ≤ 2 ∧ s7 = .int .i64 pl ∧ s8 = .int .i64 k ∧ RefAt w1.heap.size wr s6 out pl ∧ SmL k out ∧ Hid (rfR s = rfGo (L.drop k) out pl k) ∧ Below w1.heap.size w1 wr) (fun _ _ i _ => L.length - (intOf i).toNat)
    case atStart => exact ⟨[], 0, 0, hL0, by decide, rfl, rfl, RefAt.nil_ (Nat.le_refl _), SmL.nil_, HS, bl_refl⟩
    case round =>
      clear HS hL0
      obtain ⟨out, pl, k, hk, hpl, rfl, rfl, hR, hSm, HK, hbw⟩ := hrel
      obtain ⟨wo, rfl⟩ : ∃ x, x = wr := ⟨_, rfl⟩
      have hSmL := hSm.1
      obtain ⟨xs, hO, hP⟩ := hR.all
      obtain ⟨AO, cO, hvO⟩ := hO.shape
      subst hvO
      have hxl := hP.len
      rw [hxl] at hR hO ⊢
      have hbw0 : Below w.heap.size w wo := bl_then hbw hb1
      obtain ⟨b, off, rfl, hb, e0⟩ := (rA.below hbw).str (List.getElem?_eq_getElem hk)
      have hxw := HLW.out _ (List.getElem_mem hk)
      by_cases hlast : k + 1 = L.length
      · have HX := Lib.hid (rfGo_last hlast out pl)
        have tl : ((k : Int) == (L.length : Int) - 1) = true := by simp; omega
        have tl2 : (L.length : Int) - 1 = k := by omega
        obtain ⟨x, hx⟩ : ∃ x, L[k] = x := ⟨_, rfl⟩
        rw [hx] at e0 HX
        unfold sV at e0
        clear hx hxw hlast
        by_cases hx0 : x = []
        · subst hx0
          by_cases hp : 0 < pl
          · have HF : Hid (rfR s = ([], (k : Int), 28)) := by unfold Hid; rw [HK.out, HX.out, if_neg (by simp), if_pos hp]
            have tp : (0 < (pl : Int)) = True := eq_true (by omega)
            clear HX HK
            go_wp2
            go_ret3
            exact ⟨_, by rw [HF.out]; rfl, by rw [HF.out]; exact slp_nil _, hbw0⟩
          · have HF : Hid (rfR s = (out, 0, 0)) := by unfold Hid; rw [HK.out, HX.out, if_neg (by simp), if_neg hp]
            have tp : (0 < (pl : Int)) = False := eq_false (by omega)
            clear HX HK
            go_wp2
            go_ret3
            exact ⟨_, by rw [HF.out]; rfl, by rw [HF.out]; exact ⟨xs, hO.rd pnc_len, hP.at_⟩, hbw0⟩
        · have HF : Hid (rfR s = ([], (k : Int), 25)) := by unfold Hid; rw [HK.out, HX.out, if_pos hx0]
          have g0 := str_eqb x []
          rw [decide_eq_false hx0] at g0
          obtain ⟨B, hB⟩ : ∃ B : ByteArray, ({ data := x.toArray } : ByteArray) = B := ⟨_, rfl⟩
          rw [hB] at e0 g0
          have g1 : (B.toList != []) = true := by unfold bne; rw [g0]; rfl
          have g2 : (B.toList = []) = False := by simpa using g0
          clear HX HK hB hx0
          go_wp2
          go_ret3
          exact ⟨_, by rw [HF.out]; rfl, by rw [HF.out]; exact slp_nil _, hbw0⟩
      · have hk2 : k + 1 < L.length := by omega
        have HX := Lib.hid (rfGo_at hk2 out pl)
        have tl : ((k : Int) == (L.length : Int) - 1) = false := by simp; omega
        have hW1 := splA_in 32 L[k]
        have hW3 := splA_ne 32 L[k]
        have cW := fun W => rsplit_any L[k] 32 32 rfl (by omega) W
        obtain ⟨W, hWe⟩ : ∃ W, splA 32 L[k] = W := ⟨_, rfl⟩
        rw [hWe] at HX hW1 hW3 cW
        obtain ⟨x, hx⟩ : ∃ x, L[k] = x := ⟨_, rfl⟩
        rw [hx] at e0 hW1 cW hxw
        obtain ⟨hW1, hW2⟩ := hW1
        have hWb : W.length ≤ 17000 := by omega
        have hW0 : 0 < W.length := List.length_pos_iff.2 hW3
        have HWW : Hid (∀ i, (W.getD i []).length ≤ 16384) := fun i => by
          by_cases hi : i < W.length
          · have h1 := getD_some hi
            have h2 := hW2 _ (List.mem_of_getElem? h1)
            omega
          · rw [List.getD_eq_getElem?_getD, List.getElem?_eq_none (by omega)]
            simp
        unfold sV at e0 cW
        clear hx hWe hW1 hW2 hW3 hxw hlast
        go_wp2_with fail
        refine (cW _).mono ?_
        rintro e w2 ⟨vW, rfl, hWo, hb2⟩
        obtain ⟨AW, cWc, rfl⟩ := hWo.shape
        obtain ⟨_, _, eW, _, _, rW⟩ := hWo.rd strc_len
        obtain ⟨rfl, rfl⟩ : AW = _ ∧ cWc = _ := by simpa using eW
        have hbw2 : Below w1.heap.size w1 w2 := bl_then hb2 hbw
        replace hR := hR.below hb2
        replace hO := hO.below hb2
        replace hP := hP.below hb2
        obtain ⟨b, off, rfl, hb, e0⟩ := rW.str (getD_some hW0)
        have HC : Hid (∀ i, i < W.length → w2.cell? ⟨b, off + i, none⟩ = some (sV (W.getD i []))) := fun i hi => by
          obtain ⟨b', off', hA', _, h⟩ := rW.str (getD_some hi)
          obtain ⟨rfl, rfl⟩ : b = b' ∧ off = off' := by simpa using hA'
          exact h
        have cF := fun u (hu : Below w2.heap.size w2 u) => rfull_any W (some ⟨b, off, none⟩) cWc u (by omega) (rW.below hu)
        have cN := fun i u => rnum_any (W.getD i []) (by have := HWW.out i; omega) u
        have BP := isP_b W pl
        have BE := isE_b W pl
        have BN := isN_b W pl
        obtain ⟨dP, hdP⟩ : ∃ d, decide (IsP W pl) = d := ⟨_, rfl⟩
        obtain ⟨dE, hdE⟩ : ∃ d, decide (IsE W pl) = d := ⟨_, rfl⟩
        obtain ⟨dN, hdN⟩ : ∃ d, decide (IsN W pl) = d := ⟨_, rfl⟩
        rw [hdP] at BP
        rw [hdE] at BE
        rw [hdN] at BN
        have HDP := Lib.hid hdP
        have HDE := Lib.hid hdE
        have HDN := Lib.hid hdN
        replace BP := Lib.hid BP
        replace BE := Lib.hid BE
        replace BN := Lib.hid BN
        clear hdP hdE hdN
        have gP := str_eqb (W.getD 0 []) wPan
        have gL := str_eqb (W.getD 0 []) wLeft
        have gR := str_eqb (W.getD 0 []) wRight
        have gE := str_eqb (W.getD 0 []) wEnd
        have HE0 : Hid (rfE W out pl = if IsP W pl then whenI (decide (out.length = 16)) 5 else if IsE W pl then edgE (edgR W) else if IsN W pl then firstI [panE (lastP out), whenI (agnB out.dropLast (lastP out).1) 9] else 25) := rfl
        have HN0 : Hid (rfN W out pl = if IsP W pl then (out ++ [(W.getD 1 [], numR (W.getD 2 []), [], [])], 1) else if IsE W pl then (out.dropLast ++ [edgeQ W (lastP out)], if W.getD 0 [] = wLeft then pl else 2) else (out, 0)) := rfl
        have tp0 : ((pl : Int) == 0) = decide (pl = 0) := by rw [Bool.eq_iff_iff]; simp
        have tp1 : ((pl : Int) == 1) = decide (pl = 1) := by rw [Bool.eq_iff_iff]; simp; omega
        have t1 : ((W.length : Int) == 1) = decide (W.length = 1) := by rw [Bool.eq_iff_iff]; simp; omega
        have t3 : ((W.length : Int) == 3) = decide (W.length = 3) := by rw [Bool.eq_iff_iff]; simp; omega
        have t4 : ((W.length : Int) == 4) = decide (W.length = 4) := by rw [Bool.eq_iff_iff]; simp; omega
        unfold wPan at gP
        unfold wLeft at gL
        unfold wRight at gR
        unfold wEnd at gE
        have HqP : Hid (decide (W.getD 0 [] = [112, 97, 110, 101, 108]) = decide (W.getD 0 [] = wPan)) := rfl
        rw [HqP.out] at gP
        have HqL : Hid (decide (W.getD 0 [] = [108, 101, 102, 116]) = decide (W.getD 0 [] = wLeft)) := rfl
        rw [HqL.out] at gL
        have HqR : Hid (decide (W.getD 0 [] = [114, 105, 103, 104, 116]) = decide (W.getD 0 [] = wRight)) := rfl
        rw [HqR.out] at gR
        have HqE : Hid (decide (W.getD 0 [] = [101, 110, 100]) = decide (W.getD 0 [] = wEnd)) := rfl
        rw [HqE.out] at gE
        obtain ⟨p0, hp0⟩ : ∃ q, decide (pl = 0) = q := ⟨_, rfl⟩
        obtain ⟨p1, hp1⟩ : ∃ q, decide (pl = 1) = q := ⟨_, rfl⟩
        obtain ⟨p2, hp2⟩ : ∃ q, decide (0 < pl) = q := ⟨_, rfl⟩
        obtain ⟨qP, hqP⟩ : ∃ q, decide (W.getD 0 [] = wPan) = q := ⟨_, rfl⟩
        obtain ⟨qL, hqL⟩ : ∃ q, decide (W.getD 0 [] = wLeft) = q := ⟨_, rfl⟩
        obtain ⟨qR, hqR⟩ : ∃ q, decide (W.getD 0 [] = wRight) = q := ⟨_, rfl⟩
        obtain ⟨qE, hqE⟩ : ∃ q, decide (W.getD 0 [] = wEnd) = q := ⟨_, rfl⟩
        obtain ⟨l1, hl1⟩ : ∃ q, decide (W.length = 1) = q := ⟨_, rfl⟩
        obtain ⟨l3, hl3⟩ : ∃ q, decide (W.length = 3) = q := ⟨_, rfl⟩
        obtain ⟨l4, hl4⟩ : ∃ q, decide (W.length = 4) = q := ⟨_, rfl⟩
        rw [hp0] at tp0 BP
        rw [hp1] at tp1 BE
        rw [hp2] at BE BN
        rw [hqP] at gP BP
        rw [hqL] at gL BE
        rw [hqR] at gR BE
        rw [hqE] at gE BN
        rw [hl1] at t1 BN
        rw [hl3] at t3 BP
        rw [hl4] at t4 BE
        have HP0 := Lib.hid hp0
        have HP1 := Lib.hid hp1
        have HP2 := Lib.hid hp2
        have HQL := Lib.hid hqL
        have HL1 := Lib.hid hl1
        have HL3 := Lib.hid hl3
        have HL4 := Lib.hid hl4
        have hz12 := hbw2.size
        rw [Nat.add_zero] at e0
        unfold sV at e0
        obtain ⟨B0, hB0⟩ : ∃ B : ByteArray, ({ data := (W.getD 0 []).toArray } : ByteArray) = B := ⟨_, rfl⟩
        rw [hB0] at e0 gP gL gR gE
        have tp2 : decide (0 < (pl : Int)) = p2 := by rw [← hp2]; rw [Bool.eq_iff_iff]; simp
        clear hp0 hp1 hp2 hqP hqL hqR hqE hl1 hl3 hl4 HqP HqL HqR HqE eW hWo hB0 hb2 tl
        go_upto_region 15 with fail
        go_cut [46] from 47 to 70 (fun s46 wx => s46 = .bool dP ∧ Below w2.heap.size w2 wx)
        case first =>
          clear BE BN gL gR gE tp1 tp2 t1 t4 HX HK HE0 HN0 hR hO hP
          as_aux_lemma =>
            cases p0
            · go_wp2_with fail
              all_goals
                go_meet
                case rel => exact ⟨by rw [BP.out]; rfl, by (repeat first|exact J0|assumption|(apply J1;assumption)|apply J2|apply J3|apply J4)⟩
            · cases qP
              · go_wp2_with fail
                all_goals
                  go_meet
                  case rel => exact ⟨by rw [BP.out]; rfl, by (repeat first|exact J0|assumption|(apply J1;assumption)|apply J2|apply J3|apply J4)⟩
              · cases l3
                · go_wp2_with fail
                  all_goals
                    go_meet
                    case rel => exact ⟨by rw [BP.out]; rfl, by (repeat first|exact J0|assumption|(apply J1;assumption)|apply J2|apply J3|apply J4)⟩
                · have h3 : W.length = 3 := of_decide_eq_true HL3.out
                  have e2 := HC.out 2 (by omega)
                  have c2 := cN 2
                  obtain ⟨n2, hn2⟩ : ∃ n, numR (W.getD 2 []) = n := ⟨_, rfl⟩
                  simp only [hn2] at c2 BP
                  obtain ⟨a2, ha2⟩ : ∃ n, W.getD 2 [] = n := ⟨_, rfl⟩
                  rw [ha2] at c2 e2
                  obtain ⟨q, hq⟩ : ∃ q, fullB W = q := ⟨_, rfl⟩
                  rw [hq] at cF BP
                  have hw2 : 2 < W.length := by omega
                  clear hn2 ha2 hq h3
                  unfold sV at c2 e2
                  cases q
                  · go_wp2_with (go_at_call 107; refine (cF _ (by (repeat first|exact J0|assumption|(apply J1;assumption)|apply J2|apply J3|apply J4))).mono ?_; rintro e w3 ⟨rfl, hb3⟩)
                    all_goals
                      go_meet
                      case rel => exact ⟨by rw [BP.out]; rfl, by (repeat first|exact J0|assumption|(apply J1;assumption)|apply J2|apply J3|apply J4)⟩
                  · by_cases hn : 0 ≤ n2
                    · have tn : (0 ≤ n2) = True := eq_true hn
                      rw [decide_eq_true hn] at BP
                      clear hn
                      go_wp2_with (first | (go_at_call 107; refine (cF _ (by (repeat first|exact J0|assumption|(apply J1;assumption)|apply J2|apply J3|apply J4))).mono ?_; rintro e w3 ⟨rfl, hb3⟩; have f2 := (hb3.cell hb).trans e2) | (go_at_call 108; refine (c2 _).mono ?_; rintro e w4 ⟨rfl, hb4⟩))
                      all_goals
                        go_meet
                        case rel => exact ⟨by rw [BP.out]; rfl, by (repeat first|exact J0|assumption|(apply J1;assumption)|apply J2|apply J3|apply J4)⟩
                    · have tn : (0 ≤ n2) = False := eq_false hn
                      rw [decide_eq_false hn] at BP
                      clear hn
                      go_wp2_with (first | (go_at_call 107; refine (cF _ (by (repeat first|exact J0|assumption|(apply J1;assumption)|apply J2|apply J3|apply J4))).mono ?_; rintro e w3 ⟨rfl, hb3⟩; have f2 := (hb3.cell hb).trans e2) | (go_at_call 108; refine (c2 _).mono ?_; rintro e w4 ⟨rfl, hb4⟩))
                      all_goals
                        go_meet
                        case rel => exact ⟨by rw [BP.out]; rfl, by (repeat first|exact J0|assumption|(apply J1;assumption)|apply J2|apply J3|apply J4)⟩
        case rest =>
          obtain ⟨rfl, hbc⟩ := hcut
          obtain ⟨w3, rfl⟩ : ∃ x, x = wc := ⟨_, rfl⟩
          have f0 := (hbc.cell (p := ⟨b, off, none⟩) hb).trans e0
          have HC3 : Hid (∀ i, i < W.length → w3.cell? ⟨b, off + i, none⟩ = some (sV (W.getD i []))) := fun i hi => (hbc.cell (p := ⟨b, off + i, none⟩) hb).trans (HC.out i hi)
          have hb3 : b < w3.heap.size := Nat.lt_of_lt_of_le hb hbc.size
          have cF3 := fun u (hu : Below w3.heap.size w3 u) => cF u (bl_then hu hbc)
          replace hR := hR.below hbc
          have hbw3 : Below w1.heap.size w1 w3 := bl_then hbc hbw2
          have hz13 := hbw3.size
          clear hO hP hz12 hbw2 HC cF e0 hb
          cases dP
          · have hNP : ¬ IsP W pl := of_decide_eq_false HDP.out
            clear HDP BP gP tp0 t3 HL3
            go_upto_region 20 with fail
            go_cut [86] from 87 to 132 (fun s86 wx => s86 = .bool dE ∧ Below w3.heap.size w3 wx)
            case first =>
              clear BN gE t1 HX HK HE0 HN0 hR hNP
              as_aux_lemma =>
                cases p1
                · cases p2
                  · have tq1 : (0 < (pl : Int)) = False := eq_false (of_decide_eq_false tp2)
                    have tq2 : (0 < pl) = False := eq_false (of_decide_eq_false HP2.out)
                    go_wp2_with fail
                    all_goals
                      go_meet
                      case rel => exact ⟨by rw [BE.out]; rfl, by (repeat first|exact J0|assumption|(apply J1;assumption)|apply J2|apply J3|apply J4)⟩
                  · have tq1 : (0 < (pl : Int)) = True := eq_true (of_decide_eq_true tp2)
                    have tq2 : (0 < pl) = True := eq_true (of_decide_eq_true HP2.out)
                    cases qR
                    · go_wp2_with fail
                      all_goals
                        go_meet
                        case rel => exact ⟨by rw [BE.out]; rfl, by (repeat first|exact J0|assumption|(apply J1;assumption)|apply J2|apply J3|apply J4)⟩
                    · cases l4
                      · go_wp2_with fail
                        all_goals
                          go_meet
                          case rel => exact ⟨by rw [BE.out]; rfl, by (repeat first|exact J0|assumption|(apply J1;assumption)|apply J2|apply J3|apply J4)⟩
                      · have h4 : W.length = 4 := of_decide_eq_true HL4.out
                        have e2 := HC3.out 2 (by omega)
                        have e3 := HC3.out 3 (by omega)
                        have c2 := cN 2
                        have hw2 : 2 < W.length := by omega
                        have hw3 : 3 < W.length := by omega
                        have go_ := str_eqb (W.getD 3 []) wOut
                        have gi_ := str_eqb (W.getD 3 []) wIn
                        obtain ⟨qo, hqo⟩ : ∃ q, decide (W.getD 3 [] = wOut) = q := ⟨_, rfl⟩
                        obtain ⟨qi, hqi⟩ : ∃ q, decide (W.getD 3 [] = wIn) = q := ⟨_, rfl⟩
                        rw [hqo] at go_ BE
                        rw [hqi] at gi_ BE
                        unfold wOut at go_
                        unfold wIn at gi_
                        obtain ⟨n2, hn2⟩ : ∃ n, numR (W.getD 2 []) = n := ⟨_, rfl⟩
                        simp only [hn2] at c2 BE
                        obtain ⟨a2, ha2⟩ : ∃ n, W.getD 2 [] = n := ⟨_, rfl⟩
                        rw [ha2] at c2 e2
                        obtain ⟨a3, ha3⟩ : ∃ n, W.getD 3 [] = n := ⟨_, rfl⟩
                        rw [ha3] at e3 go_ gi_
                        obtain ⟨q, hq⟩ : ∃ q, fullB W = q := ⟨_, rfl⟩
                        rw [hq] at cF3 BE
                        unfold sV at c2 e2 e3
                        obtain ⟨B3, hB3⟩ : ∃ B : ByteArray, ({ data := a3.toArray } : ByteArray) = B := ⟨_, rfl⟩
                        rw [hB3] at e3 go_ gi_
                        clear hn2 ha2 ha3 hq h4 hqo hqi hB3
                        cases q
                        · go_wp2_with (go_at_call 107; refine (cF3 _ (by (repeat first|exact J0|assumption|(apply J1;assumption)|apply J2|apply J3|apply J4))).mono ?_; rintro e w4 ⟨rfl, hb4⟩; have f2 := (hb4.cell hb3).trans e2; have f3 := (hb4.cell hb3).trans e3)
                          all_goals
                            go_meet
                            case rel => exact ⟨by rw [BE.out]; rfl, by (repeat first|exact J0|assumption|(apply J1;assumption)|apply J2|apply J3|apply J4)⟩
                        · by_cases hn : 0 ≤ n2
                          · have tn : (0 ≤ n2) = True := eq_true hn
                            rw [decide_eq_true hn] at BE
                            clear hn
                            cases qo
                            · cases qi
                              · go_wp2_with (first | (go_at_call 107; refine (cF3 _ (by (repeat first|exact J0|assumption|(apply J1;assumption)|apply J2|apply J3|apply J4))).mono ?_; rintro e w4 ⟨rfl, hb4⟩; have f2 := (hb4.cell hb3).trans e2; have f3 := (hb4.cell hb3).trans e3) | (go_at_call 108; refine (c2 _).mono ?_; rintro e w5 ⟨rfl, hb5⟩; have h3 := (hb5.cell (Nat.lt_of_lt_of_le hb3 hb4.size)).trans f3))
                                all_goals
                                  go_meet
                                  case rel => exact ⟨by rw [BE.out]; rfl, by (repeat first|exact J0|assumption|(apply J1;assumption)|apply J2|apply J3|apply J4)⟩
                              · go_wp2_with (first | (go_at_call 107; refine (cF3 _ (by (repeat first|exact J0|assumption|(apply J1;assumption)|apply J2|apply J3|apply J4))).mono ?_; rintro e w4 ⟨rfl, hb4⟩; have f2 := (hb4.cell hb3).trans e2; have f3 := (hb4.cell hb3).trans e3) | (go_at_call 108; refine (c2 _).mono ?_; rintro e w5 ⟨rfl, hb5⟩; have h3 := (hb5.cell (Nat.lt_of_lt_of_le hb3 hb4.size)).trans f3))
                                all_goals
                                  go_meet
                                  case rel => exact ⟨by rw [BE.out]; rfl, by (repeat first|exact J0|assumption|(apply J1;assumption)|apply J2|apply J3|apply J4)⟩
                            · go_wp2_with (first | (go_at_call 107; refine (cF3 _ (by (repeat first|exact J0|assumption|(apply J1;assumption)|apply J2|apply J3|apply J4))).mono ?_; rintro e w4 ⟨rfl, hb4⟩; have f2 := (hb4.cell hb3).trans e2; have f3 := (hb4.cell hb3).trans e3) | (go_at_call 108; refine (c2 _).mono ?_; rintro e w5 ⟨rfl, hb5⟩; have h3 := (hb5.cell (Nat.lt_of_lt_of_le hb3 hb4.size)).trans f3))
                              all_goals
                                go_meet
                                case rel => exact ⟨by rw [BE.out]; rfl, by (repeat first|exact J0|assumption|(apply J1;assumption)|apply J2|apply J3|apply J4)⟩
                          · have tn : (0 ≤ n2) = False := eq_false hn
                            rw [decide_eq_false hn] at BE
                            clear hn
                            go_wp2_with (first | (go_at_call 107; refine (cF3 _ (by (repeat first|exact J0|assumption|(apply J1;assumption)|apply J2|apply J3|apply J4))).mono ?_; rintro e w4 ⟨rfl, hb4⟩; have f2 := (hb4.cell hb3).trans e2; have f3 := (hb4.cell hb3).trans e3) | (go_at_call 108; refine (c2 _).mono ?_; rintro e w5 ⟨rfl, hb5⟩; have h3 := (hb5.cell (Nat.lt_of_lt_of_le hb3 hb4.size)).trans f3))
                            all_goals
                              go_meet
                              case rel => exact ⟨by rw [BE.out]; rfl, by (repeat first|exact J0|assumption|(apply J1;assumption)|apply J2|apply J3|apply J4)⟩
                · cases qL
                  · cases p2
                    · have tq1 : (0 < (pl : Int)) = False := eq_false (of_decide_eq_false tp2)
                      have tq2 : (0 < pl) = False := eq_false (of_decide_eq_false HP2.out)
                      go_wp2_with fail
                      all_goals
                        go_meet
                        case rel => exact ⟨by rw [BE.out]; rfl, by (repeat first|exact J0|assumption|(apply J1;assumption)|apply J2|apply J3|apply J4)⟩
                    · have tq1 : (0 < (pl : Int)) = True := eq_true (of_decide_eq_true tp2)
                      have tq2 : (0 < pl) = True := eq_true (of_decide_eq_true HP2.out)
                      cases qR
                      · go_wp2_with fail
                        all_goals
                          go_meet
                          case rel => exact ⟨by rw [BE.out]; rfl, by (repeat first|exact J0|assumption|(apply J1;assumption)|apply J2|apply J3|apply J4)⟩
                      · cases l4
                        · go_wp2_with fail
                          all_goals
                            go_meet
                            case rel => exact ⟨by rw [BE.out]; rfl, by (repeat first|exact J0|assumption|(apply J1;assumption)|apply J2|apply J3|apply J4)⟩
                        · have h4 : W.length = 4 := of_decide_eq_true HL4.out
                          have e2 := HC3.out 2 (by omega)
                          have e3 := HC3.out 3 (by omega)
                          have c2 := cN 2
                          have hw2 : 2 < W.length := by omega
                          have hw3 : 3 < W.length := by omega
                          have go_ := str_eqb (W.getD 3 []) wOut
                          have gi_ := str_eqb (W.getD 3 []) wIn
                          obtain ⟨qo, hqo⟩ : ∃ q, decide (W.getD 3 [] = wOut) = q := ⟨_, rfl⟩
                          obtain ⟨qi, hqi⟩ : ∃ q, decide (W.getD 3 [] = wIn) = q := ⟨_, rfl⟩
                          rw [hqo] at go_ BE
                          rw [hqi] at gi_ BE
                          unfold wOut at go_
                          unfold wIn at gi_
                          obtain ⟨n2, hn2⟩ : ∃ n, numR (W.getD 2 []) = n := ⟨_, rfl⟩
                          simp only [hn2] at c2 BE
                          obtain ⟨a2, ha2⟩ : ∃ n, W.getD 2 [] = n := ⟨_, rfl⟩
                          rw [ha2] at c2 e2
                          obtain ⟨a3, ha3⟩ : ∃ n, W.getD 3 [] = n := ⟨_, rfl⟩
                          rw [ha3] at e3 go_ gi_
                          obtain ⟨q, hq⟩ : ∃ q, fullB W = q := ⟨_, rfl⟩
                          rw [hq] at cF3 BE
                          unfold sV at c2 e2 e3
                          obtain ⟨B3, hB3⟩ : ∃ B : ByteArray, ({ data := a3.toArray } : ByteArray) = B := ⟨_, rfl⟩
                          rw [hB3] at e3 go_ gi_
                          clear hn2 ha2 ha3 hq h4 hqo hqi hB3
                          cases q
                          · go_wp2_with (go_at_call 107; refine (cF3 _ (by (repeat first|exact J0|assumption|(apply J1;assumption)|apply J2|apply J3|apply J4))).mono ?_; rintro e w4 ⟨rfl, hb4⟩; have f2 := (hb4.cell hb3).trans e2; have f3 := (hb4.cell hb3).trans e3)
                            all_goals
                              go_meet
                              case rel => exact ⟨by rw [BE.out]; rfl, by (repeat first|exact J0|assumption|(apply J1;assumption)|apply J2|apply J3|apply J4)⟩
                          · by_cases hn : 0 ≤ n2
                            · have tn : (0 ≤ n2) = True := eq_true hn
                              rw [decide_eq_true hn] at BE
                              clear hn
                              cases qo
                              · cases qi
                                · go_wp2_with (first | (go_at_call 107; refine (cF3 _ (by (repeat first|exact J0|assumption|(apply J1;assumption)|apply J2|apply J3|apply J4))).mono ?_; rintro e w4 ⟨rfl, hb4⟩; have f2 := (hb4.cell hb3).trans e2; have f3 := (hb4.cell hb3).trans e3) | (go_at_call 108; refine (c2 _).mono ?_; rintro e w5 ⟨rfl, hb5⟩; have h3 := (hb5.cell (Nat.lt_of_lt_of_le hb3 hb4.size)).trans f3))
                                  all_goals
                                    go_meet
                                    case rel => exact ⟨by rw [BE.out]; rfl, by (repeat first|exact J0|assumption|(apply J1;assumption)|apply J2|apply J3|apply J4)⟩
                                · go_wp2_with (first | (go_at_call 107; refine (cF3 _ (by (repeat first|exact J0|assumption|(apply J1;assumption)|apply J2|apply J3|apply J4))).mono ?_; rintro e w4 ⟨rfl, hb4⟩; have f2 := (hb4.cell hb3).trans e2; have f3 := (hb4.cell hb3).trans e3) | (go_at_call 108; refine (c2 _).mono ?_; rintro e w5 ⟨rfl, hb5⟩; have h3 := (hb5.cell (Nat.lt_of_lt_of_le hb3 hb4.size)).trans f3))
                                  all_goals
                                    go_meet
                                    case rel => exact ⟨by rw [BE.out]; rfl, by (repeat first|exact J0|assumption|(apply J1;assumption)|apply J2|apply J3|apply J4)⟩
                              · go_wp2_with (first | (go_at_call 107; refine (cF3 _ (by (repeat first|exact J0|assumption|(apply J1;assumption)|apply J2|apply J3|apply J4))).mono ?_; rintro e w4 ⟨rfl, hb4⟩; have f2 := (hb4.cell hb3).trans e2; have f3 := (hb4.cell hb3).trans e3) | (go_at_call 108; refine (c2 _).mono ?_; rintro e w5 ⟨rfl, hb5⟩; have h3 := (hb5.cell (Nat.lt_of_lt_of_le hb3 hb4.size)).trans f3))
                                all_goals
                                  go_meet
                                  case rel => exact ⟨by rw [BE.out]; rfl, by (repeat first|exact J0|assumption|(apply J1;assumption)|apply J2|apply J3|apply J4)⟩
                            · have tn : (0 ≤ n2) = False := eq_false hn
                              rw [decide_eq_false hn] at BE
                              clear hn
                              go_wp2_with (first | (go_at_call 107; refine (cF3 _ (by (repeat first|exact J0|assumption|(apply J1;assumption)|apply J2|apply J3|apply J4))).mono ?_; rintro e w4 ⟨rfl, hb4⟩; have f2 := (hb4.cell hb3).trans e2; have f3 := (hb4.cell hb3).trans e3) | (go_at_call 108; refine (c2 _).mono ?_; rintro e w5 ⟨rfl, hb5⟩; have h3 := (hb5.cell (Nat.lt_of_lt_of_le hb3 hb4.size)).trans f3))
                              all_goals
                                go_meet
                                case rel => exact ⟨by rw [BE.out]; rfl, by (repeat first|exact J0|assumption|(apply J1;assumption)|apply J2|apply J3|apply J4)⟩
                  · cases l4
                    · go_wp2_with fail
                      all_goals
                        go_meet
                        case rel => exact ⟨by rw [BE.out]; rfl, by (repeat first|exact J0|assumption|(apply J1;assumption)|apply J2|apply J3|apply J4)⟩
                    · have h4 : W.length = 4 := of_decide_eq_true HL4.out
                      have e2 := HC3.out 2 (by omega)
                      have e3 := HC3.out 3 (by omega)
                      have c2 := cN 2
                      have hw2 : 2 < W.length := by omega
                      have hw3 : 3 < W.length := by omega
                      have go_ := str_eqb (W.getD 3 []) wOut
                      have gi_ := str_eqb (W.getD 3 []) wIn
                      obtain ⟨qo, hqo⟩ : ∃ q, decide (W.getD 3 [] = wOut) = q := ⟨_, rfl⟩
                      obtain ⟨qi, hqi⟩ : ∃ q, decide (W.getD 3 [] = wIn) = q := ⟨_, rfl⟩
                      rw [hqo] at go_ BE
                      rw [hqi] at gi_ BE
                      unfold wOut at go_
                      unfold wIn at gi_
                      obtain ⟨n2, hn2⟩ : ∃ n, numR (W.getD 2 []) = n := ⟨_, rfl⟩
                      simp only [hn2] at c2 BE
                      obtain ⟨a2, ha2⟩ : ∃ n, W.getD 2 [] = n := ⟨_, rfl⟩
                      rw [ha2] at c2 e2
                      obtain ⟨a3, ha3⟩ : ∃ n, W.getD 3 [] = n := ⟨_, rfl⟩
                      rw [ha3] at e3 go_ gi_
                      obtain ⟨q, hq⟩ : ∃ q, fullB W = q := ⟨_, rfl⟩
                      rw [hq] at cF3 BE
                      unfold sV at c2 e2 e3
                      obtain ⟨B3, hB3⟩ : ∃ B : ByteArray, ({ data := a3.toArray } : ByteArray) = B := ⟨_, rfl⟩
                      rw [hB3] at e3 go_ gi_
                      clear hn2 ha2 ha3 hq h4 hqo hqi hB3
                      cases q
                      · go_wp2_with (go_at_call 107; refine (cF3 _ (by (repeat first|exact J0|assumption|(apply J1;assumption)|apply J2|apply J3|apply J4))).mono ?_; rintro e w4 ⟨rfl, hb4⟩; have f2 := (hb4.cell hb3).trans e2; have f3 := (hb4.cell hb3).trans e3)
                        all_goals
                          go_meet
                          case rel => exact ⟨by rw [BE.out]; rfl, by (repeat first|exact J0|assumption|(apply J1;assumption)|apply J2|apply J3|apply J4)⟩
                      · by_cases hn : 0 ≤ n2
                        · have tn : (0 ≤ n2) = True := eq_true hn
                          rw [decide_eq_true hn] at BE
                          clear hn
                          cases qo
                          · cases qi
                            · go_wp2_with (first | (go_at_call 107; refine (cF3 _ (by (repeat first|exact J0|assumption|(apply J1;assumption)|apply J2|apply J3|apply J4))).mono ?_; rintro e w4 ⟨rfl, hb4⟩; have f2 := (hb4.cell hb3).trans e2; have f3 := (hb4.cell hb3).trans e3) | (go_at_call 108; refine (c2 _).mono ?_; rintro e w5 ⟨rfl, hb5⟩; have h3 := (hb5.cell (Nat.lt_of_lt_of_le hb3 hb4.size)).trans f3))
                              all_goals
                                go_meet
                                case rel => exact ⟨by rw [BE.out]; rfl, by (repeat first|exact J0|assumption|(apply J1;assumption)|apply J2|apply J3|apply J4)⟩
                            · go_wp2_with (first | (go_at_call 107; refine (cF3 _ (by (repeat first|exact J0|assumption|(apply J1;assumption)|apply J2|apply J3|apply J4))).mono ?_; rintro e w4 ⟨rfl, hb4⟩; have f2 := (hb4.cell hb3).trans e2; have f3 := (hb4.cell hb3).trans e3) | (go_at_call 108; refine (c2 _).mono ?_; rintro e w5 ⟨rfl, hb5⟩; have h3 := (hb5.cell (Nat.lt_of_lt_of_le hb3 hb4.size)).trans f3))
                              all_goals
                                go_meet
                                case rel => exact ⟨by rw [BE.out]; rfl, by (repeat first|exact J0|assumption|(apply J1;assumption)|apply J2|apply J3|apply J4)⟩
                          · go_wp2_with (first | (go_at_call 107; refine (cF3 _ (by (repeat first|exact J0|assumption|(apply J1;assumption)|apply J2|apply J3|apply J4))).mono ?_; rintro e w4 ⟨rfl, hb4⟩; have f2 := (hb4.cell hb3).trans e2; have f3 := (hb4.cell hb3).trans e3) | (go_at_call 108; refine (c2 _).mono ?_; rintro e w5 ⟨rfl, hb5⟩; have h3 := (hb5.cell (Nat.lt_of_lt_of_le hb3 hb4.size)).trans f3))
                            all_goals
                              go_meet
                              case rel => exact ⟨by rw [BE.out]; rfl, by (repeat first|exact J0|assumption|(apply J1;assumption)|apply J2|apply J3|apply J4)⟩
                        · have tn : (0 ≤ n2) = False := eq_false hn
                          rw [decide_eq_false hn] at BE
                          clear hn
                          go_wp2_with (first | (go_at_call 107; refine (cF3 _ (by (repeat first|exact J0|assumption|(apply J1;assumption)|apply J2|apply J3|apply J4))).mono ?_; rintro e w4 ⟨rfl, hb4⟩; have f2 := (hb4.cell hb3).trans e2; have f3 := (hb4.cell hb3).trans e3) | (go_at_call 108; refine (c2 _).mono ?_; rintro e w5 ⟨rfl, hb5⟩; have h3 := (hb5.cell (Nat.lt_of_lt_of_le hb3 hb4.size)).trans f3))
                          all_goals
                            go_meet
                            case rel => exact ⟨by rw [BE.out]; rfl, by (repeat first|exact J0|assumption|(apply J1;assumption)|apply J2|apply J3|apply J4)⟩
            case rest =>
              obtain ⟨rfl, hbc⟩ := hcut
              obtain ⟨w4, rfl⟩ : ∃ x, x = wc := ⟨_, rfl⟩
              replace f0 := (hbc.cell (p := ⟨b, off, none⟩) hb3).trans f0
              have HC4 : Hid (∀ i, i < W.length → w4.cell? ⟨b, off + i, none⟩ = some (sV (W.getD i []))) := fun i hi => (hbc.cell (p := ⟨b, off + i, none⟩) hb3).trans (HC3.out i hi)
              have hb4 : b < w4.heap.size := Nat.lt_of_lt_of_le hb3 hbc.size
              replace hR := hR.below hbc
              have hbw4 : Below w1.heap.size w1 w4 := bl_then hbc hbw3
              have hz14 := hbw4.size
              clear hz13 HC3 hb3 BE t4 HL4 tp1
              cases dE
              · go_upto_region 29 with fail
                go_cut [179] from 180 to 192 (fun s179 wx => s179 = .bool dN ∧ Below w4.heap.size w4 wx)
                case first =>
                  clear HX HK HE0 HN0 hR
                  as_aux_lemma =>
                    cases p2
                    · have tq1 : (0 < (pl : Int)) = False := eq_false (of_decide_eq_false tp2)
                      have tq2 : (0 < pl) = False := eq_false (of_decide_eq_false HP2.out)
                      go_wp2_with fail
                      all_goals
                        go_meet
                        case rel => exact ⟨by rw [BN.out]; rfl, by (repeat first|exact J0|assumption|(apply J1;assumption)|apply J2|apply J3|apply J4)⟩
                    · have tq1 : (0 < (pl : Int)) = True := eq_true (of_decide_eq_true tp2)
                      have tq2 : (0 < pl) = True := eq_true (of_decide_eq_true HP2.out)
                      cases qE
                      · go_wp2_with fail
                        all_goals
                          go_meet
                          case rel => exact ⟨by rw [BN.out]; rfl, by (repeat first|exact J0|assumption|(apply J1;assumption)|apply J2|apply J3|apply J4)⟩
                      · cases l1
                        · go_wp2_with fail
                          all_goals
                            go_meet
                            case rel => exact ⟨by rw [BN.out]; rfl, by (repeat first|exact J0|assumption|(apply J1;assumption)|apply J2|apply J3|apply J4)⟩
                        · go_wp2_with fail
                          all_goals
                            go_meet
                            case rel => exact ⟨by rw [BN.out]; rfl, by (repeat first|exact J0|assumption|(apply J1;assumption)|apply J2|apply J3|apply J4)⟩
                case rest =>
                  obtain ⟨rfl, hbc⟩ := hcut
                  obtain ⟨w5, rfl⟩ : ∃ x, x = wc := ⟨_, rfl⟩
                  have hbw5 : Below w1.heap.size w1 w5 := bl_then hbc hbw4
                  replace hR := hR.below hbc
                  have hNE : ¬ IsE W pl := of_decide_eq_false HDE.out
                  cases dN
                  · have hNN : ¬ IsN W pl := of_decide_eq_false HDN.out
                    have HF : Hid (rfR s = ([], (k : Int), 25)) := by unfold Hid; rw [HK.out, HX.out, HE0.out, if_neg hNP, if_neg hNE, if_neg hNN]; rfl
                    clear HX HK HE0 HN0 HDE HDN hNP hNE hNN
                    go_wp2
                    go_ret3
                    exact ⟨_, by rw [HF.out]; rfl, by rw [HF.out]; exact slp_nil _, bl_then hbw5 hb1⟩
                  · as_aux_lemma =>
                      have hIN : IsN W pl := of_decide_eq_true HDN.out
                      have hpl0 : 0 < pl := hIN.1
                      have HE1 : Hid (rfE W out pl = firstI [panE (lastP out), whenI (agnB out.dropLast (lastP out).1) 9]) := by unfold Hid; rw [HE0.out, if_neg hNP, if_neg hNE, if_pos hIN]
                      have HN1 : Hid (rfN W out pl = (out, 0)) := by unfold Hid; rw [HN0.out, if_neg hNP, if_neg hNE]
                      obtain ⟨xs, hO, hP⟩ := hR.all
                      have hxl2 : xs.length = out.length := hP.len
                      have hRc := hR.close hbw5.size
                      have hne : out ≠ [] := by
                        obtain ⟨_, _, _, _, _, h⟩ := hR
                        rcases h with ⟨h, _⟩ | ⟨_, xs0, x, ps, p, _, h, _⟩
                        · omega
                        · rw [h]; simp
                      have hol : 0 < out.length := List.length_pos_iff.2 hne
                      obtain ⟨m, hm⟩ : ∃ m, out.length = m + 1 := ⟨out.length - 1, by omega⟩
                      have hmo : m < out.length := by omega
                      have hmx : m < xs.length := by omega
                      have hlp : lastP out = out[m] := by
                        unfold lastP
                        rw [List.getLast?_eq_getElem?, hm, Nat.add_sub_cancel, List.getElem?_eq_getElem hmo, Option.getD_some]
                      have hdl : out.dropLast = out.take m := by rw [List.dropLast_eq_take, hm, Nat.add_sub_cancel]
                      have hmn : ((out.length : Int) - 1) = m := by omega
                      have HE2 : Hid (rfE W out pl = atJ out m out[m]) := by unfold Hid; rw [HE1.out, hlp, hdl]; rfl
                      have hp := hP.at_.get (List.getElem?_eq_getElem hmx) (List.getElem?_eq_getElem hmo)
                      have hsz := hSm.2 _ (List.getElem_mem hmo)
                      obtain ⟨bo, offo, hAO, hbo, e0, e1, e2, e3⟩ := (Sl.rd_ (hO.rd pnc_len)).pan (List.getElem?_eq_getElem hmx)
                      obtain ⟨p, hpe⟩ : ∃ p, out[m] = p := ⟨_, rfl⟩
                      rw [hpe] at hp HE2 hsz
                      obtain ⟨x, hxe⟩ : ∃ x, xs[m] = x := ⟨_, rfl⟩
                      rw [hxe] at hp e0 e1 e2 e3
                      have hcp := fun u (hb : Below w5.heap.size w5 u) => rcheckPanel_any p u (by omega) (hp.left.below hb) (hp.right.below hb) (fun e he => by have := hsz.2.2.2.1 e he; omega) (fun e he => by have := hsz.2.2.2.2 e he; omega)
                      have HN : Hid (x.1 = p.1) := hp.nm
                      rw [← hp.nm, ← hp.wd] at hcp
                      have H0 := Lib.hid (atJ_nil out p)
                      have HS := Lib.hid (fun j (hj : j ≤ m) => atJ_stop (l := out) (p := p) hj)
                      have HO := Lib.hid (fun j (hj : j < out.length) => atJ_on (p := p) hj)
                      obtain ⟨E1, hE1⟩ : ∃ E, panE p = E := ⟨_, rfl⟩
                      rw [hE1] at hcp H0
                      obtain ⟨⟨n0, n1, ⟨a0, a1, a2⟩, ⟨b0, b1, b2⟩⟩, hxx⟩ : ∃ z, x = z := ⟨_, rfl⟩
                      rw [hxx] at e0 e1 e2 e3 hcp HN
                      simp only [sV, slV] at e0 e1 e2 e3 hcp HN
                      subst hAO
                      have hmn1 : m < out.length := hmo
                      have hmL : out.length ≤ 16 := hSmL
                      have HHM := Lib.hid hm
                      clear hIN hpl0 hNP hNE HE0 HE1 HN0 hR hne hol hm hlp hdl hp hsz hxx hE1 hpe hxe hxl2 HDE HDN cN
                      go_upto_region 30 with fail
                      rw [hmn]
                      clear hmn
                      go_wp2_with fail
                      refine (hcp _ bl_refl).mono ?_
                      rintro e w6 ⟨rfl, hb6⟩
                      have hbw6 : Below w1.heap.size w1 w6 := bl_then hb6 hbw5
                      have d0 := (hb6.cell (p := ⟨bo, offo + m * 4, none⟩) hbo).trans e0
                      have hbo6 : bo < w6.heap.size := Nat.lt_of_lt_of_le hbo hb6.size
                      have hP6 := hP.below hb6
                      have hO6 := hO.below hb6
                      have hRc6 := hRc.below hb6
                      clear e0 e1 e2 e3 hO hP hRc hcp
                      go_wp2
                      go_loopw [13, 14] (fun s13 s14 wr => ∃ j : Nat, j ≤ m ∧ s14 = .int .i64 j ∧ s13 = .int .i64 (atJ out j p) ∧ Below w6.heap.size w6 wr) (fun _ s _ => m - (intOf s).toNat)
                      case atStart => exact ⟨0, Nat.zero_le _, rfl, congrArg (Value.int .i64) H0.out.symm, bl_refl⟩
                      case round =>
                        obtain ⟨j, hj, rfl, rfl, hbj⟩ := hrel
                        obtain ⟨wi, rfl⟩ : ∃ x, x = wr := ⟨_, rfl⟩
                        have hs := HS.out j hj
                        have hbi : Below w1.heap.size w1 wi := bl_then hbj hbw6
                        by_cases hz : j < m ∧ atJ out j p = 0
                        · obtain ⟨hjk, hz⟩ := hz
                          have hjl : j < out.length := by omega
                          have hjx : j < xs.length := by have := hP6.len; omega
                          have HQ := Lib.hid (HO.out j hjl hz)
                          have hpj := (hP6.below hbj).at_.get (List.getElem?_eq_getElem hjx) (List.getElem?_eq_getElem hjl)
                          obtain ⟨bj, offj, hA, hbj2, f0, _, _, _⟩ := (Sl.rd_ ((hO6.below hbj).rd pnc_len)).pan (List.getElem?_eq_getElem hjx)
                          obtain ⟨rfl, rfl⟩ : bo = bj ∧ offo = offj := by simpa using hA
                          have g0 := (hbj.cell (p := ⟨bo, offo + m * 4, none⟩) hbo6).trans d0
                          rw [hpj.nm] at f0
                          have hee := ba_eq out[j].1 n0
                          rw [← HN.out] at HQ
                          unfold sV at f0
                          obtain ⟨Bj, hBj⟩ : ∃ B : ByteArray, ({ data := out[j].1.toArray } : ByteArray) = B := ⟨_, rfl⟩
                          obtain ⟨Bk, hBk⟩ : ∃ B : ByteArray, ({ data := n0.toArray } : ByteArray) = B := ⟨_, rfl⟩
                          rw [hBj] at f0 hee
                          rw [hBk] at g0 hee
                          rw [hz]
                          obtain ⟨q, hq⟩ : ∃ q, (out[j].1 == n0) = q := ⟨_, rfl⟩
                          rw [hq] at hee HQ
                          clear hz hs hA hpj hBj hBk hq
                          cases q
                          · have HR : Hid (atJ out (j + 1) p = 0) := HQ
                            clear HQ
                            go_upto_region 34 with fail
                            refine wp_region_ords [0, 1, 2, 3, 4, 5, 6, 7, 8, 9, 10] [] [] (by kernel_rfl) (by kernel_rfl) (fun d _ _ _ _ h => by cases d <;> exact h) ?_
                            simp only [List.map_cons, List.map_nil, List.getD_cons_zero, List.getD_cons_succ]
                            repeat (go_big_quiet_step (fail))
                            refine wpQuiet_nil ?_
                            refine wpMid_nil ?_
                            go_wp2
                            go_roundw
                            case rel => exact ⟨j + 1, by omega, by go_num, by rw [HR.out], bl_then (by (repeat first|exact J0|assumption|(apply J1;assumption)|apply J2|apply J3|apply J4)) hbj⟩
                            case measure => simp [intOf]; omega
                          · have HR : Hid (atJ out (j + 1) p = 9) := HQ
                            clear HQ
                            go_upto_region 34 with fail
                            refine wp_region_ords [0, 1, 2, 3, 4, 5, 6, 7, 8, 9, 10] [] [] (by kernel_rfl) (by kernel_rfl) (fun d _ _ _ _ h => by cases d <;> exact h) ?_
                            simp only [List.map_cons, List.map_nil, List.getD_cons_zero, List.getD_cons_succ]
                            repeat (go_big_quiet_step (fail))
                            refine wpQuiet_nil ?_
                            refine wpMid_nil ?_
                            go_wp2
                            go_roundw
                            case rel => exact ⟨j + 1, by omega, by go_num, by rw [HR.out], bl_then (by (repeat first|exact J0|assumption|(apply J1;assumption)|apply J2|apply J3|apply J4)) hbj⟩
                            case measure => simp [intOf]; omega
                        · have hv : atJ out j p = atJ out m p := by
                            by_cases hz0 : atJ out j p = 0
                            · have : j = m := by
                                refine Classical.byContradiction fun q => hz ⟨by omega, hz0⟩
                              rw [this]
                            · exact hs hz0
                          have hg : j < m → atJ out m p ≠ 0 := fun q e => hz ⟨q, by rw [hv]; exact e⟩
                          rw [hv]
                          obtain ⟨E, hE⟩ : ∃ E, atJ out m p = E := ⟨_, rfl⟩
                          rw [hE] at HE2 hg
                          rw [hE]
                          clear hs hz hv hE H0 HS HO hP6 hO6
                          by_cases hE0 : E = 0
                          · subst hE0
                            have hjk : ¬ j < m := fun q => hg q rfl
                            have t1 : (j < m) = False := eq_false hjk
                            have HK3 : Hid (rfR s = rfGo (L.drop (k + 1)) out 0 (k + 1)) := by unfold Hid; rw [HK.out, HX.out, HE2.out, HN1.out]; rfl
                            have hSm3 := hSm.mono (Nat.le_succ k)
                            clear hg hjk HE2 HX HK
                            go_wp2
                            go_roundw
                            case rel => exact ⟨out, 0, k + 1, hk2, by decide, rfl, by go_num, hRc6.below hbj, hSm3, HK3, hbi⟩
                            case measure => simp [intOf]; omega
                          · have t2 : (E == 0) = false := beq_false_of_ne hE0
                            have t3 : (E != 0) = true := by simpa using hE0
                            have HF : Hid (rfR s = ([], (k : Int), E)) := by unfold Hid; rw [HK.out, HX.out, HE2.out, if_neg hE0]
                            clear hg HE2 HX HK hE0
                            by_cases hjk : j < m
                            · go_wp2
                              go_ret3
                              exact ⟨_, by rw [HF.out]; rfl, by rw [HF.out]; exact slp_nil _, bl_then hbi hb1⟩
                            · have t1 : (j < m) = False := eq_false hjk
                              clear hjk
                              go_wp2
                              go_ret3
                              exact ⟨_, by rw [HF.out]; rfl, by rw [HF.out]; exact slp_nil _, bl_then hbi hb1⟩
              · as_aux_lemma =>
                  have hIE : IsE W pl := of_decide_eq_true HDE.out
                  have HE1 : Hid (rfE W out pl = edgE (edgR W)) := by unfold Hid; rw [HE0.out, if_neg hNP, if_pos hIE]
                  have HN1 : Hid (rfN W out pl = (out.dropLast ++ [edgeQ W (lastP out)], if W.getD 0 [] = wLeft then pl else 2)) := by unfold Hid; rw [HN0.out, if_neg hNP, if_pos hIE]
                  have h4 : W.length = 4 := hIE.2.1
                  have hpl0 : 0 < pl := by rcases hIE.1 with ⟨h, _⟩ | ⟨h, _⟩ <;> omega
                  have hside : (W.getD 0 [] = wLeft ∧ pl = 1) ∨ (W.getD 0 [] ≠ wLeft) := by
                    rcases hIE.1 with ⟨h, h'⟩ | ⟨_, h'⟩
                    · exact .inl ⟨h', h⟩
                    · exact .inr (by rw [h']; decide)
                  have e1 := HC4.out 1 (by omega)
                  have e2 := HC4.out 2 (by omega)
                  have e3 := HC4.out 3 (by omega)
                  have hn1 := HWW.out 1
                  have hw1 : 1 < W.length := by omega
                  have hw2 : 2 < W.length := by omega
                  have hw3 : 3 < W.length := by omega
                  have go_ := str_eqb (W.getD 3 []) wOut
                  have c2 := cN 2
                  have HER : Hid (edgR W = (W.getD 1 [], numR (W.getD 2 []), decide (W.getD 3 [] = wOut))) := by unfold Hid edgR; rw [show (W.getD 3 [] == wOut) = decide (W.getD 3 [] = wOut) by rw [Bool.eq_iff_iff]; simp]
                  obtain ⟨qo, hqo⟩ : ∃ q, decide (W.getD 3 [] = wOut) = q := ⟨_, rfl⟩
                  rw [hqo] at go_ HER
                  unfold wOut at go_
                  obtain ⟨a1, ha1⟩ : ∃ n, W.getD 1 [] = n := ⟨_, rfl⟩
                  obtain ⟨a2, ha2⟩ : ∃ n, W.getD 2 [] = n := ⟨_, rfl⟩
                  obtain ⟨a3, ha3⟩ : ∃ n, W.getD 3 [] = n := ⟨_, rfl⟩
                  rw [ha1] at e1 HER hn1
                  rw [ha2] at e2 HER c2
                  rw [ha3] at e3 go_
                  obtain ⟨n2, hn2⟩ : ∃ n, numR a2 = n := ⟨_, rfl⟩
                  rw [hn2] at HER c2
                  obtain ⟨EE, hEE⟩ : ∃ E, edgR W = E := ⟨_, rfl⟩
                  rw [hEE] at HE1 HER
                  have HQ : Hid (∀ p, edgeQ W p = if W.getD 0 [] = wLeft then (p.1, p.2.1, p.2.2.1 ++ [EE], p.2.2.2) else (p.1, p.2.1, p.2.2.1, p.2.2.2 ++ [EE])) := fun p => by unfold edgeQ; rw [hEE]
                  have cE := fun u => rcheckEdge_any EE u (by rw [HER.out]; simp only; omega)
                  rw [HER.out] at cE
                  have hE1l : EE.1.length ≤ 20000 := by rw [HER.out]; simp only; omega
                  unfold sV at e1 e2 e3 c2
                  obtain ⟨B1, hB1⟩ : ∃ B : ByteArray, ({ data := a1.toArray } : ByteArray) = B := ⟨_, rfl⟩
                  have HB1 : Hid (Value.string B1 = .string ⟨a1.toArray⟩) := by unfold Hid; rw [hB1]
                  obtain ⟨B3, hB3⟩ : ∃ B : ByteArray, ({ data := a3.toArray } : ByteArray) = B := ⟨_, rfl⟩
                  rw [hB3] at e3 go_
                  rw [hB1] at e1
                  unfold sV at cE
                  rw [hB1] at cE
                  rw [HER.out] at HE1
                  obtain ⟨E, hE⟩ : ∃ E, edgE (a1, n2, qo) = E := ⟨_, rfl⟩
                  rw [hE] at HE1 cE
                  have HCE : Hid (edgE (a1, n2, qo) = E) := hE
                  clear hIE h4 ha1 ha2 ha3 hn2 hqo hEE hB3 hE hB1 HDE HDN HE0 HN0 BN gR gE tp2 t1 HC4 cF3
                  have gq : (W.getD 0 [] = wLeft ↔ qL = true) := by rw [← HQL.out]; simp
                  obtain ⟨xs, wb, hO, hKp, hbb, hor⟩ := hR
                  rcases hor with ⟨h0, _⟩ | ⟨_, xs0, x, ps, p, rfl, rfl, hxs0, ho⟩
                  · omega
                  have hl0 : xs0.length = ps.length := hxs0.len
                  obtain ⟨m, hm⟩ : ∃ m, ps.length = m := ⟨_, rfl⟩
                  rw [hm] at hl0
                  have hn : (ps ++ [p]).length = m + 1 := by simp [hm]
                  rw [hn] at hO hSmL ⊢
                  have hmn : (((m + 1 : Nat) : Int) - 1) = m := by omega
                  rw [hmn]
                  obtain ⟨nr, hnr1, hnr2, m1, m2, oL, oLt, oR, oRn⟩ := id ho
                  obtain ⟨x0, x1, ⟨La, Ln, Lc⟩, ⟨Ra, Rn, Rc⟩⟩ := x
                  simp only [slV] at oL oLt oR m1 m2
                  have hLn : Ln = p.2.2.1.length := by obtain ⟨_, _, h⟩ := oL.shape; exact (Value.slice.inj h).2.1
                  have hRn : Rn = p.2.2.2.length := by obtain ⟨_, _, h⟩ := oR.shape; exact (Value.slice.inj h).2.1
                  subst hLn hRn
                  obtain ⟨g, hAO⟩ : ∃ g, AO = some ⟨g, 0, none⟩ := by
                    rcases hO.2 with ⟨_, h⟩ | ⟨g, cap, cur, hv, _⟩
                    · simp at h
                    · exact ⟨g, (Value.slice.inj hv).1⟩
                  subst hAO
                  have hszp := hSm.2 p (by simp)
                  have hxL4 := fun k e => (oL.lt k e).2
                  have hxR4 := fun k e => (oR.lt k e).2
                  have hN2 : Hid (rfN W (ps ++ [p]) pl = (ps ++ [if W.getD 0 [] = wLeft then (p.1, p.2.1, p.2.2.1 ++ [(a1, n2, qo)], p.2.2.2) else (p.1, p.2.1, p.2.2.1, p.2.2.2 ++ [(a1, n2, qo)])], if W.getD 0 [] = wLeft then pl else 2)) := by
                    unfold Hid
                    rw [HN1.out, lastP_app, List.dropLast_concat, HQ.out, HER.out]
                  have hkb : k ≤ 20000 := by omega
                  clear HN1 HQ oL oR hn hm
                  go_upto_region 21 with fail
                  go_cut [11] from 133 to 144 ((fun s11 wx => ∃ gE, s11 = .pointer (some ⟨gE, 0, none⟩) ∧ Blk wx gE 132 #[.string B1, .int .i64 n2, .bool qo] ∧ w4.heap.size ≤ gE ∧ Below w4.heap.size w4 wx))
                  case first =>
                    refine wp_region_tree [0, 1, 2, 3, 4, 5, 7, 8, 9, 10] (.alt (.br 6 (.take 11 (.alt (.br 12 (.fin) (.stop)))) (.br 12 (.alt (.br 6 (.take 11 (.fin)) (.stop))) (.stop)))) [13] (by kernel_rfl) (by kernel_rfl) (fun d _ _ _ _ h => by cases d <;> exact h) ?_
                    simp only [List.map_cons, List.map_nil, List.getD_cons_zero, List.getD_cons_succ]
                    repeat (go_big_quiet_step (fail))
                    refine wpQuiet_nil ?_
                    refine wpTree_alt (wpTree_br rfl rfl ?_ (wpTree_br rfl rfl ?_ wpTree_stop))
                    · intro K hK
                      go_simp
                      refine (c2 _).mono ?_
                      rintro e w5 ⟨rfl, hb5⟩
                      refine hK _ _ (by (repeat first|exact J0|assumption|(apply J1;assumption)|apply J2|apply J3|apply J4)) ?_
                      clear hK K
                      refine wpTree_take rfl rfl ?_; intro K hK; simp only [Array.getD_eq_getD_getElem?, List.getElem?_toArray, List.getElem?_cons_succ, List.getElem?_cons_zero, Option.getD_some]; go_big_quiet_op; go_big_quiet_on
                      refine wpTree_alt (wpTree_br rfl rfl ?_ wpTree_stop)
                      have hS0 := Blk.new (w5) 132 #[.string ⟨#[]⟩, .int .i64 0, .bool false]
                      intro K hK
                      go_simp
                      refine hK _ _ (by (repeat first|exact J0|assumption|(apply J1;assumption)|apply J2|apply J3|apply J4)) ?_
                      clear hK K
                      refine wpTree_fin ?_
                      have hS1 := hS0.below (show Below _ _ (w5.alloc (.cells #[.string ⟨#[]⟩, .int .i64 0, .bool false] 132)) by (repeat first|exact J0|assumption|(apply J1;assumption)|apply J2|apply J3|apply J4))
                      go_wp2_with (refine wpList_store_blk hS1 rfl _ _ _ rfl rfl rfl (by rfl) (by kernel_rfl) (by kernel_rfl) ?_; intro w7 hS7 hc7)
                      have hg7 : w4.heap.size ≤ (w5).heap.size := Below.size (show Below w4.heap.size w4 (w5) by (repeat first|exact J0|assumption|(apply J1;assumption)|apply J2|apply J3|apply J4))
                      have hb7 : Below w4.heap.size w4 w7 := chg_bl (by (repeat first|exact J0|assumption|(apply J1;assumption)|apply J2|apply J3|apply J4)) hc7 hg7
                      go_meet
                      case rel => exact ⟨((w5).heap.size), rfl, hS7, hg7, hb7⟩
                    · have hS0 := Blk.new (w4.drew) 132 #[.string ⟨#[]⟩, .int .i64 0, .bool false]
                      intro K hK
                      go_simp
                      refine hK _ _ (by (repeat first|exact J0|assumption|(apply J1;assumption)|apply J2|apply J3|apply J4)) ?_
                      clear hK K
                      refine wpTree_alt (wpTree_br rfl rfl ?_ wpTree_stop)
                      intro K hK
                      go_simp
                      refine (c2 _).mono ?_
                      rintro e w5 ⟨rfl, hb5⟩
                      refine hK _ _ (by (repeat first|exact J0|assumption|(apply J1;assumption)|apply J2|apply J3|apply J4)) ?_
                      clear hK K
                      refine wpTree_take rfl rfl ?_; intro K hK; simp only [Array.getD_eq_getD_getElem?, List.getElem?_toArray, List.getElem?_cons_succ, List.getElem?_cons_zero, Option.getD_some]; go_big_quiet_op; go_big_quiet_on
                      refine wpTree_fin ?_
                      have hS1 := hS0.below (show Below _ _ (w5) by (repeat first|exact J0|assumption|(apply J1;assumption)|apply J2|apply J3|apply J4))
                      go_wp2_with (refine wpList_store_blk hS1 rfl _ _ _ rfl rfl rfl (by rfl) (by kernel_rfl) (by kernel_rfl) ?_; intro w7 hS7 hc7)
                      have hg7 : w4.heap.size ≤ (w4.drew).heap.size := Below.size (show Below w4.heap.size w4 (w4.drew) by (repeat first|exact J0|assumption|(apply J1;assumption)|apply J2|apply J3|apply J4))
                      have hb7 : Below w4.heap.size w4 w7 := chg_bl (by (repeat first|exact J0|assumption|(apply J1;assumption)|apply J2|apply J3|apply J4)) hc7 hg7
                      go_meet
                      case rel => exact ⟨((w4.drew).heap.size), rfl, hS7, hg7, hb7⟩
                  case rest =>
                    obtain ⟨gE, rfl, hG, hgE, hbc⟩ := hcut
                    obtain ⟨w6, rfl⟩ : ∃ x, x = wc := ⟨_, rfl⟩
                    have fG := hG.facts
                    replace f0 := (hbc.cell (p := ⟨b, off, none⟩) hb4).trans f0
                    have hb6 : b < w6.heap.size := Nat.lt_of_lt_of_le hb4 hbc.size
                    clear e1 e2 e3 go_ c2 hw1 hw2 hw3
                    go_wp2_with fail
                    refine (cE _).mono ?_
                    rintro e w7 ⟨rfl, hb7⟩
                    have hb47 : Below w4.heap.size w4 w7 := bl_then hb7 hbc
                    have hbw7 : Below w1.heap.size w1 w7 := bl_then hb47 hbw4
                    replace f0 := (hb7.cell (p := ⟨b, off, none⟩) hb6).trans f0
                    have hG7 := hG.below hb7
                    have hz47 := hb47.size
                    clear fG cE hb4 hb6
                    by_cases hE0 : E = 0
                    · subst hE0
                      have hO7 := hO.below hb47
                      have hK7 := hKp.then_ hb47
                      have ho7 := ho.below hb47
                      have hzwb := hK7.size
                      clear hO hKp ho hG hbc hb7
                      rcases hside with ⟨hl, hp1⟩ | hl
                      · have tL : qL = true := gq.1 hl
                        clear gq HQL
                        subst tL
                        subst hp1
                        have HF : Hid (rfR s = rfGo (L.drop (k + 1)) (ps ++ [(p.1, p.2.1, p.2.2.1 ++ [(a1, n2, qo)], p.2.2.2)]) 1 (k + 1)) := by unfold Hid; rw [HK.out, HX.out, HE1.out, hN2.out, if_pos hl, if_pos hl]; rfl
                        have hSm2 := hSm.left_ (e := (a1, n2, qo)) (by have := hE1l; rw [HER.out] at this; exact this)
                        obtain ⟨nr, hnr1, hnr2, m1, m2, oL, oLt, oR, oRn⟩ := id ho7
                        simp only [slV] at oL oLt oR m1 m2
                        clear HK HX HE1 hN2 hl
                        go_upto_region 26 with fail
                        have hgB : gE ≠ g := by
                          rintro rfl
                          obtain ⟨cs, hB, _⟩ := own_setLast hO7
                          unfold Blk at hB hG7
                          rw [hB] at hG7
                          simp at hG7
                        have hGa := (hG7.drew).alloc (.cells #[.string B1, .int .i64 n2, .bool qo] 132)
                        have hOa := (hO7.drew).alloc (.cells #[.string B1, .int .i64 n2, .bool qo] 132)
                        have oLa := (oL.drew).alloc (.cells #[.string B1, .int .i64 n2, .bool qo] 132)
                        have hba : Below w7.heap.size w7 (w7.drew.alloc (.cells #[.string B1, .int .i64 n2, .bool qo] 132)) := bl_alloc (bl_drew bl_refl) _
                        have hua : Sl ec 3 (w7.drew.alloc (.cells #[.string B1, .int .i64 n2, .bool qo] 132)) (.slice (some ⟨w7.heap.size, 0, none⟩) 1 1) [(a1, n2, qo)] := Sl.oneG w7.drew _ (a1, n2, qo) _ (by rw [HB1.out]; rfl)
                        have hza := hba.size
                        obtain ⟨cs7, hB7, -, hgw, hset7⟩ := own_setLast hO7
                        rw [hl0] at hset7
                        have d7 : ∀ u, Blk u g 24 cs7 → u.cell? ⟨g, m * 4 + 2, none⟩ = some (.slice La p.2.2.1.length Lc) := fun u h => by
                          rw [h.cell, (hset7 2 (.slice La p.2.2.1.length Lc) (x0, x1, (La, p.2.2.1.length, Lc), (Ra, p.2.2.2.length, Rc)) (by decide) rfl).1]
                          rfl
                        obtain ⟨csa, hBa, -, -, hseta⟩ := own_setLast hOa
                        rw [hl0] at hseta
                        have da : ∀ u, Blk u g 24 csa → u.cell? ⟨g, m * 4 + 2, none⟩ = some (.slice La p.2.2.1.length Lc) := fun u h => by
                          rw [h.cell, (hseta 2 (.slice La p.2.2.1.length Lc) (x0, x1, (La, p.2.2.1.length, Lc), (Ra, p.2.2.2.length, Rc)) (by decide) rfl).1]
                          rfl
                        obtain ⟨P0, hP0⟩ : ∃ P0 : World → Prop, P0 = fun u => u.cell? ⟨g, m * 4 + 2, none⟩ = some (.slice La p.2.2.1.length Lc) ∧ u.cell? ⟨gE, 0, none⟩ = some (.string B1) ∧ u.cell? ⟨gE, 1, none⟩ = some (.int .i64 n2) ∧ u.cell? ⟨gE, 2, none⟩ = some (.bool qo) := ⟨_, rfl⟩
                        have hPm : ∀ u, u.cell? ⟨g, m * 4 + 2, none⟩ = some (.slice La p.2.2.1.length Lc) → Blk u gE 132 #[.string B1, .int .i64 n2, .bool qo] → P0 u := fun u h1 h2 => by
                          rw [hP0]
                          exact ⟨h1, by rw [h2.cell]; rfl, by rw [h2.cell]; rfl, by rw [h2.cell]; rfl⟩
                        have hPi : ∀ u, P0 u → u.cell? ⟨g, m * 4 + 2, none⟩ = some (.slice La p.2.2.1.length Lc) ∧ u.cell? ⟨gE, 0, none⟩ = some (.string B1) ∧ u.cell? ⟨gE, 1, none⟩ = some (.int .i64 n2) ∧ u.cell? ⟨gE, 2, none⟩ = some (.bool qo) := fun u h => by rw [hP0] at h; exact h
                        have hp0 : P0 w7.drew := hPm _ (d7 _ hB7.drew) hG7.drew
                        have hp1 := hPm _ (da _ hBa) hGa
                        have hcb3 : ∀ u : BelM wb.heap.size w7 P0, u.val.cell? ⟨g, m * 4 + 2, none⟩ = some (.slice La p.2.2.1.length Lc) := fun u => (hPi _ u.has).1
                        have hcg0 : ∀ u : BelM wb.heap.size w7 P0, u.val.cell? ⟨gE, 0, none⟩ = some (.string B1) := fun u => (hPi _ u.has).2.1
                        have hcg1 : ∀ u : BelM wb.heap.size w7 P0, u.val.cell? ⟨gE, 1, none⟩ = some (.int .i64 n2) := fun u => (hPi _ u.has).2.2.1
                        have hcg2 : ∀ u : BelM wb.heap.size w7 P0, u.val.cell? ⟨gE, 2, none⟩ = some (.bool qo) := fun u => (hPi _ u.has).2.2.2
                        have hst0 : Below wb.heap.size w7 (w7.drew.alloc (.cells #[.string B1, .int .i64 n2, .bool qo] 132)) := hba.mono (by omega)
                        haveI hne' : Nonempty (BelM wb.heap.size w7 P0) := BelM.none_empty hst0 hp1
                        have hmm : m < m + 1 := Nat.lt_succ_self m
                        have hXl : p.2.2.1.length ≤ 20000 := by have := hszp; omega
                        clear hP0 hPi
                        refine wp_region_ordm (wb.heap.size) (P0) [0, 1, 2, 3, 4, 5, 6, 7] [(8, false), (9, false)] [10, 11, 12] (by kernel_rfl) (by kernel_rfl) (fun d _ _ _ _ h => by cases d <;> exact h) (hp0) ?_
                        simp only [List.map_cons, List.map_nil, List.getD_cons_zero, List.getD_cons_succ]
                        repeat (go_big_quiet_step (fail))
                        refine wpQuiet_nil ?_
                        refine wpMid_runm rfl (fun K hK => ?_)
                        go_simp
                        refine hK _ _ (hst0) (hp1) ?_
                        clear hK K
                        clear hcb3 hcg0 hcg1 hcg2 hne'
                        refine wpMid_runm rfl (fun K hK => ?_)
                        refine op_app (l := p.2.2.1) (r := [(a1, n2, qo)]) redge_elem ec_len ec_one _ _ rfl wb.heap.size _ _ rfl rfl oLa hua (by simp [maxLen]; omega) (by simp; omega) (Nat.le_trans (show wb.heap.size ≤ w7.heap.size by omega) hza) ?_
                        intro v8 w8 hown8 hgr8
                        replace hgr8 : (w7.drew.alloc (.cells #[.string B1, .int .i64 n2, .bool qo] 132)).grownBy w8 _ := hgr8
                        have hlt8 := oLa.lt
                        obtain ⟨A8, c8, rfl⟩ := hown8.shape
                        have hG8 := hGa.grown hgr8 (fun e => by have := hxL4 gE e.symm; omega)
                        have hO8 := hOa.kept hgr8 (Own.ne_own hOa oLa (by decide))
                        obtain ⟨cs8, hB8, -, -, hset8⟩ := own_setLast hO8
                        rw [hl0] at hset8
                        have hst8 : Below wb.heap.size w7 w8 := bl_tgrown hst0 hgr8 (by omega) (fun k e => by have := (hlt8 k e).1; omega)
                        have d8 : w8.cell? ⟨g, m * 4 + 2, none⟩ = some (.slice La p.2.2.1.length Lc) := by
                          rw [hB8.cell, (hset8 2 (.slice La p.2.2.1.length Lc) (x0, x1, (La, p.2.2.1.length, Lc), (Ra, p.2.2.2.length, Rc)) (by decide) rfl).1]
                          rfl
                        refine hK _ _ hst8 (hPm _ d8 hG8) ?_
                        clear hK K hp0 hp1 hPm
                        refine wpMid_nil ?_
                        have hlen8 : (p.2.2.1 ++ [(a1, n2, qo)]).length = p.2.2.1.length + 1 := by simp
                        rw [hlen8] at hown8 ⊢
                        have fB8 := hB8.facts
                        have hfin := (hset8 2 (.slice A8 (p.2.2.1.length + 1) c8) (x0, x1, (A8, p.2.2.1.length + 1, c8), (Ra, p.2.2.2.length, Rc)) (by decide) rfl).2
                        have hw18 : Below w1.heap.size w1 w8 := bl_grown hgr8 (bl_then hba hbw7) (fun k e => by have := (hlt8 k e).1; omega)
                        have hR8 := RefAt.left_ (x := (x0, x1, (La, p.2.2.1.length, Lc), (Ra, p.2.2.2.length, Rc))) (p := p) (vl := (A8, p.2.2.1.length + 1, c8)) (e := (a1, n2, qo)) hxs0 hK7 rfl hbb ho7 hba hgr8 hown8 hB8 (by rw [hl0]; exact hfin)
                        have hb18 : Below w1.heap.size w1 (w8.setCell ⟨g, m * 4 + 2, none⟩ (.slice A8 (p.2.2.1.length + 1) c8)) := bl_set hw18 hgw _
                        rw [hl0] at hR8
                        go_wp2
                        go_roundw
                        case rel => exact ⟨_, 1, k + 1, hk2, by decide, rfl, by go_num, hR8, hSm2, HF, hb18⟩
                        case measure => simp [intOf]; omega
                      · have tL : qL = false := by cases qL with | false => rfl | true => exact absurd (gq.2 rfl) hl
                        clear gq HQL
                        subst tL
                        skip
                        have HF : Hid (rfR s = rfGo (L.drop (k + 1)) (ps ++ [(p.1, p.2.1, p.2.2.1, p.2.2.2 ++ [(a1, n2, qo)])]) 2 (k + 1)) := by unfold Hid; rw [HK.out, HX.out, HE1.out, hN2.out, if_neg hl, if_neg hl]; rfl
                        have hSm2 := hSm.right_ (e := (a1, n2, qo)) (by have := hE1l; rw [HER.out] at this; exact this)
                        obtain ⟨nr, hnr1, hnr2, m1, m2, oL, oLt, oR, oRn⟩ := id ho7
                        simp only [slV] at oL oLt oR m1 m2
                        clear HK HX HE1 hN2 hl
                        go_upto_region 27 with fail
                        have hgB : gE ≠ g := by
                          rintro rfl
                          obtain ⟨cs, hB, _⟩ := own_setLast hO7
                          unfold Blk at hB hG7
                          rw [hB] at hG7
                          simp at hG7
                        have hGa := (hG7.drew).alloc (.cells #[.string B1, .int .i64 n2, .bool qo] 132)
                        have hOa := (hO7.drew).alloc (.cells #[.string B1, .int .i64 n2, .bool qo] 132)
                        have oRa := (oR.drew).alloc (.cells #[.string B1, .int .i64 n2, .bool qo] 132)
                        have hba : Below w7.heap.size w7 (w7.drew.alloc (.cells #[.string B1, .int .i64 n2, .bool qo] 132)) := bl_alloc (bl_drew bl_refl) _
                        have hua : Sl ec 3 (w7.drew.alloc (.cells #[.string B1, .int .i64 n2, .bool qo] 132)) (.slice (some ⟨w7.heap.size, 0, none⟩) 1 1) [(a1, n2, qo)] := Sl.oneG w7.drew _ (a1, n2, qo) _ (by rw [HB1.out]; rfl)
                        have hza := hba.size
                        obtain ⟨cs7, hB7, -, hgw, hset7⟩ := own_setLast hO7
                        rw [hl0] at hset7
                        have d7 : ∀ u, Blk u g 24 cs7 → u.cell? ⟨g, m * 4 + 3, none⟩ = some (.slice Ra p.2.2.2.length Rc) := fun u h => by
                          rw [h.cell, (hset7 3 (.slice Ra p.2.2.2.length Rc) (x0, x1, (La, p.2.2.1.length, Lc), (Ra, p.2.2.2.length, Rc)) (by decide) rfl).1]
                          rfl
                        obtain ⟨csa, hBa, -, -, hseta⟩ := own_setLast hOa
                        rw [hl0] at hseta
                        have da : ∀ u, Blk u g 24 csa → u.cell? ⟨g, m * 4 + 3, none⟩ = some (.slice Ra p.2.2.2.length Rc) := fun u h => by
                          rw [h.cell, (hseta 3 (.slice Ra p.2.2.2.length Rc) (x0, x1, (La, p.2.2.1.length, Lc), (Ra, p.2.2.2.length, Rc)) (by decide) rfl).1]
                          rfl
                        obtain ⟨P0, hP0⟩ : ∃ P0 : World → Prop, P0 = fun u => u.cell? ⟨g, m * 4 + 3, none⟩ = some (.slice Ra p.2.2.2.length Rc) ∧ u.cell? ⟨gE, 0, none⟩ = some (.string B1) ∧ u.cell? ⟨gE, 1, none⟩ = some (.int .i64 n2) ∧ u.cell? ⟨gE, 2, none⟩ = some (.bool qo) := ⟨_, rfl⟩
                        have hPm : ∀ u, u.cell? ⟨g, m * 4 + 3, none⟩ = some (.slice Ra p.2.2.2.length Rc) → Blk u gE 132 #[.string B1, .int .i64 n2, .bool qo] → P0 u := fun u h1 h2 => by
                          rw [hP0]
                          exact ⟨h1, by rw [h2.cell]; rfl, by rw [h2.cell]; rfl, by rw [h2.cell]; rfl⟩
                        have hPi : ∀ u, P0 u → u.cell? ⟨g, m * 4 + 3, none⟩ = some (.slice Ra p.2.2.2.length Rc) ∧ u.cell? ⟨gE, 0, none⟩ = some (.string B1) ∧ u.cell? ⟨gE, 1, none⟩ = some (.int .i64 n2) ∧ u.cell? ⟨gE, 2, none⟩ = some (.bool qo) := fun u h => by rw [hP0] at h; exact h
                        have hp0 : P0 w7.drew := hPm _ (d7 _ hB7.drew) hG7.drew
                        have hp1 := hPm _ (da _ hBa) hGa
                        have hcb3 : ∀ u : BelM wb.heap.size w7 P0, u.val.cell? ⟨g, m * 4 + 3, none⟩ = some (.slice Ra p.2.2.2.length Rc) := fun u => (hPi _ u.has).1
                        have hcg0 : ∀ u : BelM wb.heap.size w7 P0, u.val.cell? ⟨gE, 0, none⟩ = some (.string B1) := fun u => (hPi _ u.has).2.1
                        have hcg1 : ∀ u : BelM wb.heap.size w7 P0, u.val.cell? ⟨gE, 1, none⟩ = some (.int .i64 n2) := fun u => (hPi _ u.has).2.2.1
                        have hcg2 : ∀ u : BelM wb.heap.size w7 P0, u.val.cell? ⟨gE, 2, none⟩ = some (.bool qo) := fun u => (hPi _ u.has).2.2.2
                        have hst0 : Below wb.heap.size w7 (w7.drew.alloc (.cells #[.string B1, .int .i64 n2, .bool qo] 132)) := hba.mono (by omega)
                        haveI hne' : Nonempty (BelM wb.heap.size w7 P0) := BelM.none_empty hst0 hp1
                        have hmm : m < m + 1 := Nat.lt_succ_self m
                        have hXl : p.2.2.2.length ≤ 20000 := by have := hszp; omega
                        clear hP0 hPi
                        refine wp_region_ordm (wb.heap.size) (P0) [0, 1, 2, 3, 4, 5, 6, 7] [(8, false), (9, false)] [10, 11, 12] (by kernel_rfl) (by kernel_rfl) (fun d _ _ _ _ h => by cases d <;> exact h) (hp0) ?_
                        simp only [List.map_cons, List.map_nil, List.getD_cons_zero, List.getD_cons_succ]
                        repeat (go_big_quiet_step (fail))
                        refine wpQuiet_nil ?_
                        refine wpMid_runm rfl (fun K hK => ?_)
                        go_simp
                        refine hK _ _ (hst0) (hp1) ?_
                        clear hK K
                        clear hcb3 hcg0 hcg1 hcg2 hne'
                        refine wpMid_runm rfl (fun K hK => ?_)
                        refine op_app (l := p.2.2.2) (r := [(a1, n2, qo)]) redge_elem ec_len ec_one _ _ rfl nr _ _ rfl rfl oRa hua (by simp [maxLen]; omega) (by simp; omega) (Nat.le_trans (show nr ≤ w7.heap.size by omega) hza) ?_
                        intro v8 w8 hown8 hgr8
                        replace hgr8 : (w7.drew.alloc (.cells #[.string B1, .int .i64 n2, .bool qo] 132)).grownBy w8 _ := hgr8
                        have hlt8 := oRa.lt
                        obtain ⟨A8, c8, rfl⟩ := hown8.shape
                        have hG8 := hGa.grown hgr8 (fun e => by have := hxR4 gE e.symm; omega)
                        have hO8 := hOa.kept hgr8 (Own.ne_own hOa oRa (by decide))
                        obtain ⟨cs8, hB8, -, -, hset8⟩ := own_setLast hO8
                        rw [hl0] at hset8
                        have hst8 : Below wb.heap.size w7 w8 := bl_tgrown hst0 hgr8 (by omega) (fun k e => by have := (hlt8 k e).1; omega)
                        have d8 : w8.cell? ⟨g, m * 4 + 3, none⟩ = some (.slice Ra p.2.2.2.length Rc) := by
                          rw [hB8.cell, (hset8 3 (.slice Ra p.2.2.2.length Rc) (x0, x1, (La, p.2.2.1.length, Lc), (Ra, p.2.2.2.length, Rc)) (by decide) rfl).1]
                          rfl
                        refine hK _ _ hst8 (hPm _ d8 hG8) ?_
                        clear hK K hp0 hp1 hPm
                        refine wpMid_nil ?_
                        have hlen8 : (p.2.2.2 ++ [(a1, n2, qo)]).length = p.2.2.2.length + 1 := by simp
                        rw [hlen8] at hown8 ⊢
                        have fB8 := hB8.facts
                        have hfin := (hset8 3 (.slice A8 (p.2.2.2.length + 1) c8) (x0, x1, (La, p.2.2.1.length, Lc), (A8, p.2.2.2.length + 1, c8)) (by decide) rfl).2
                        have hw18 : Below w1.heap.size w1 w8 := bl_grown hgr8 (bl_then hba hbw7) (fun k e => by have := (hlt8 k e).1; omega)
                        have hR8 := RefAt.right_ (x := (x0, x1, (La, p.2.2.1.length, Lc), (Ra, p.2.2.2.length, Rc))) (p := p) (vr := (A8, p.2.2.2.length + 1, c8)) (e := (a1, n2, qo)) hxs0 hK7 rfl hbb hnr1 m1 m2 oL oLt oR hba hgr8 hown8 (Nat.le_trans hnr2 (Nat.le_trans hza hgr8.size)) hB8 (by rw [hl0]; exact hfin)
                        have hb18 : Below w1.heap.size w1 (w8.setCell ⟨g, m * 4 + 3, none⟩ (.slice A8 (p.2.2.2.length + 1) c8)) := bl_set hw18 hgw _
                        rw [hl0] at hR8
                        go_wp2
                        go_roundw
                        case rel => exact ⟨_, 2, k + 1, hk2, by decide, rfl, by go_num, hR8, hSm2, HF, hb18⟩
                        case measure => simp [intOf]; omega
                    · have tE : (E != 0) = true := by simpa using hE0
                      have HF : Hid (rfR s = ([], (k : Int), E)) := by unfold Hid; rw [HK.out, HX.out, HE1.out, if_neg hE0]
                      clear HX HK HE1 hN2 hE0
                      go_wp2
                      go_ret3
                      exact ⟨_, by rw [HF.out]; rfl, by rw [HF.out]; exact slp_nil _, bl_then hbw7 hb1⟩
          · as_aux_lemma =>
              have hIP : IsP W pl := of_decide_eq_true HDP.out
              have HE1 : Hid (rfE W out pl = whenI (decide (out.length = 16)) 5) := by unfold Hid; rw [HE0.out, if_pos hIP]
              have HN1 : Hid (rfN W out pl = (out ++ [(W.getD 1 [], numR (W.getD 2 []), [], [])], 1)) := by unfold Hid; rw [HN0.out, if_pos hIP]
              have h3 : W.length = 3 := hIP.2.2.1
              have hpl0 : pl = 0 := hIP.1
              have e1 := HC3.out 1 (by omega)
              have e2 := HC3.out 2 (by omega)
              have c2 := cN 2
              have hn1 := HWW.out 1
              have hw1 : 1 < W.length := by omega
              have hw2 : 2 < W.length := by omega
              obtain ⟨xs, hO, hP⟩ := hR.all
              have hxl2 : xs.length = out.length := hP.len
              obtain ⟨a1, ha1⟩ : ∃ n, W.getD 1 [] = n := ⟨_, rfl⟩
              obtain ⟨a2, ha2⟩ : ∃ n, W.getD 2 [] = n := ⟨_, rfl⟩
              rw [ha1] at e1 HN1 hn1
              rw [ha2] at e2 HN1 c2
              obtain ⟨n2, hn2⟩ : ∃ n, numR a2 = n := ⟨_, rfl⟩
              rw [hn2] at HN1 c2
              clear hIP h3 hpl0 ha1 ha2 hn2 HDP HDE HDN HE0 HN0 BP BE BN gP gL gR gE tp0 tp1 tp2 t1 t3 t4 f0 HC3 cF3
              by_cases h16 : out.length = 16
              · have HF : Hid (rfR s = ([], (k : Int), 5)) := by unfold Hid; rw [HK.out, HX.out, HE1.out, decide_eq_true h16]; rfl
                have t16 : ((out.length : Int) == 16) = true := by simp; omega
                clear h16
                go_wp2
                go_ret3
                exact ⟨_, by rw [HF.out]; rfl, by rw [HF.out]; exact slp_nil _, bl_then hbw3 hb1⟩
              · have HF : Hid (rfR s = rfGo (L.drop (k + 1)) (out ++ [(a1, n2, [], [])]) 1 (k + 1)) := by unfold Hid; rw [HK.out, HX.out, HE1.out, decide_eq_false h16, HN1.out]; rfl
                have t16 : ((out.length : Int) == 16) = false := by simp; omega
                have hSm2 := hSm.open_ (nm := a1) (wd := n2) (by omega) h16
                clear h16 HE1 HN1 HK HX
                unfold sV at e1 e2 c2
                go_upto_region 18 with fail
                refine wp_region_ords [0, 1, 2, 3, 4, 5, 6] [(7, false), (8, false), (9, false)] [10, 11] (by kernel_rfl) (by kernel_rfl) (fun d _ _ _ _ h => by cases d <;> exact h) ?_
                simp only [List.map_cons, List.map_nil, List.getD_cons_zero, List.getD_cons_succ]
                repeat (go_big_quiet_step (fail))
                refine wpQuiet_nil ?_
                refine wpMid_run rfl (fun K hK => ?_)
                go_simp
                refine (c2 _).mono ?_
                rintro e w4 ⟨rfl, hb4⟩
                refine hK _ _ (by (repeat first|exact J0|assumption|(apply J1;assumption)|apply J2|apply J3|apply J4)) ?_
                clear hK K
                refine wpMid_run rfl (fun K hK => ?_)
                go_simp
                refine hK _ _ (by (repeat first|exact J0|assumption|(apply J1;assumption)|apply J2|apply J3|apply J4)) ?_
                clear hK K
                refine wpMid_run rfl (fun K hK => ?_)
                go_simp
                refine hK _ _ (by (repeat first|exact J0|assumption|(apply J1;assumption)|apply J2|apply J3|apply J4)) ?_
                clear hK K
                refine wpMid_nil ?_
                have hb34 : Below w3.heap.size w3 w4 := by (repeat first|exact J0|assumption|(apply J1;assumption)|apply J2|apply J3|apply J4)
                have hO4 := hO.below hb34
                have hP4 := hP.below hb34
                have hbw4 : Below w1.heap.size w1 w4 := bl_then hb34 hbw3
                have hOa := hO4.alloc (.cells #[.string ⟨a1.toArray⟩, .int .i64 n2, .slice none 0 0, .slice none 0 0] 24)
                have hba : Below w1.heap.size w1 (w4.alloc (.cells #[.string ⟨a1.toArray⟩, .int .i64 n2, .slice none 0 0, .slice none 0 0] 24)) := bl_alloc hbw4 _
                have hPa := hP4.below (show Below w4.heap.size w4 (w4.alloc (.cells #[.string ⟨a1.toArray⟩, .int .i64 n2, .slice none 0 0, .slice none 0 0] 24)) from bl_alloc bl_refl _)
                have hua : Sl pnc 4 (w4.alloc (.cells #[.string ⟨a1.toArray⟩, .int .i64 n2, .slice none 0 0, .slice none 0 0] 24)) (.slice (some ⟨w4.heap.size, 0, none⟩) 1 1) [(a1, n2, (none, 0, 0), (none, 0, 0))] := Sl.oneG w4 _ (a1, n2, (none, 0, 0), (none, 0, 0)) _ rfl
                have hza := hba.size
                go_wp2_with (at_builtin; refine wpList_app rfl rpan_elem pnc_len pnc_one _ _ rfl w1.heap.size _ _ xs [(a1, n2, (none, 0, 0), (none, 0, 0))] rfl rfl hOa hua (by simp [maxLen]; omega) (by simp; omega) hza ?_; intro v9 w9 hO9 hg9)
                have hb9 : Below w1.heap.size w1 w9 := bl_grown hg9 hba (fun j e => (hOa.lt j e).1)
                have hP9 := hPa.to (fun _ _ ho => ho.kept hg9 (Own.ne_own ho hOa (by decide)))
                have hR9 := RefAt.open_ hO9 hP9 hb9.size
                go_wp2
                go_roundw
                case rel => exact ⟨_, 1, k + 1, hk2, by decide, rfl, by go_num, hR9, hSm2, HF, hb9⟩
                case measure => simp [intOf]; omega
end Go.Proofs.YtkkefahobjlagaaGreatDoor
