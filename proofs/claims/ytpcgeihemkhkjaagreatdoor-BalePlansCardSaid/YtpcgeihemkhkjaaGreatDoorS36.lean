/- Parse, walked. Conditions: bounds. -/
import Derived.Test.YtpcgeihemkhkjaaGreatDoorS31
import Derived.Test.YtpcgeihemkhkjaaGreatDoorS28
namespace Go.Proofs.YtpcgeihemkhkjaaGreatDoor
open Go.RowKit Go.ChangeMaps
set_option maxHeartbeats 4000000
set_option maxRecDepth 100000
attribute [local go_sem] Oper.semAt_some
def Zpb (l : List Pan) (s : Str) : Int := Z17 [pieE l, Z15 (decide (4096 < s.length)) 26]
def paeB (l : List Pan) (s : Str) : List Plc × Int × Int := if Zpb l s = 0 then prsB l s else ([], 0, Zpb l s)
theorem Zpc {l : List Pan} {s : Str} (h : Zpb l s = 0) : pieE l = 0 ∧ s.length ≤ 4096 ∧ l.length ≤ 16 := by
 have h1 : pieE l = 0 := by
  unfold Zpb at h; simp only [Z17] at h; split at h
  ·assumption
  ·exact h
 refine ⟨h1, ?_, (Zng h1).2.1⟩
 unfold Zpb at h
 rw [h1] at h
 refine Classical.byContradiction fun hn => ?_
 rw [decide_eq_true (by omega)] at h
 simp [Z17, Z15] at h
def RPB (w : World) (z : List Plc × Int × Int) (e : Ending) (w' : World) : Prop := ∃ v, e = .returned (.tuple #[v, .int .i64 z.2.1, .int .i64 z.2.2]) ∧ Own plc 3 w.heap.size 100 w' v z.1 ∧ Below w.heap.size w w'
theorem Zpd (l : List Pan) {r : Str} (hne : r ≠ []) (out : List Plc) (i : Nat) : ∃ a r2 q, Lib.cut r [10] = (a, r2, q) ∧ r2.length < r.length ∧ a.length ≤ r.length ∧
    prsL l (Zaf r) out i = if q = true then (if linE l (Za9 a) out = 0 then prsL l (Zaf r2) (out ++ [linP l (Za9 a)]) (i + 1) else ([], (i : Int), linE l (Za9 a) out)) else ([], (i : Int), 25) := by
  obtain ⟨a, r2, q, hc, h1, h2, h3⟩ := Zny r hne
  refine ⟨a, r2, q, hc, h1, h2, ?_⟩
  rw [Znc]; rcases h3 with ⟨rfl, hl⟩ | ⟨rfl, rfl, hl, hn⟩
  · have hx : lnE l (a ++ [10]) out = linE l (splS a) out := by
      unfold lnE; rw [(Zni a).1, (Zni a).2, if_pos rfl]
    rw [hl, prsL, hx, (Zni a).2, if_pos rfl]
  · have hx : lnE l a out = 25 := by
      unfold lnE; rw [hn]; rfl
    rw [hl, prsL, hx, if_neg (by decide), if_neg (by decide)]
theorem Zpe {l : List Pan} {W : List Str} {out : List Plc} (h : W.length ≠ 3) : linE l W out = 25 := by
 unfold linE
 rw [if_neg fun z => h z.1]
theorem Zpf {l : List Pan} {u0 u1 u2 : Str} {out : List Plc} : linE l [u0, u1, u2] out = if u0 = [] then 25 else if dirB u1 = true then (if (intR u2).2 = true then Z17 [Z15 (!(idxP l u0).isSome) 10, Z15 (useB out (((idxP l u0).getD 0 : Nat) : Int)) 9, atE_ (intR u2).1] else 25) else 25 := by
 unfold linE dirB useB
 simp only [List.length_cons, List.length_nil, List.getD_cons_zero, List.getD_cons_succ]
 by_cases h0 : u0 = []
 ·simp [h0]
 ·by_cases h1 : u1 = dirS false ∨ u1 = dirS true
  ·by_cases h2 : (intR u2).2 = true
   ·simp [h0, h1, h2]
   ·simp [h0, h1, h2]
  ·simp [h0, h1]
theorem Zpg {l : List Pan} {u0 u1 u2 : Str} : linP l [u0, u1, u2] = ((((idxP l u0).getD 0 : Nat) : Int), decide (u1 = dirS true), (intR u2).1) := rfl
theorem Zph {W : List Str} (h : W.length = 3) : ∃ u0 u1 u2, W = [u0, u1, u2] := by
 match W, h with
 | [a, b, c], _ => exact ⟨a, b, c, rfl⟩
theorem Rd.three {w : World} {B : Nat} {u0 u1 u2 : Str} (h : Rd strc 1 w (some ⟨B, 0, none⟩) [u0, u1, u2]) : B < w.heap.size ∧ w.cell? ⟨B, 0, none⟩ = some (.string ⟨u0.toArray⟩) ∧ w.cell? ⟨B, 1, none⟩ = some (.string ⟨u1.toArray⟩) ∧ w.cell? ⟨B, 2, none⟩ = some (.string ⟨u2.toArray⟩) := by
 have key : ∀ k u, [u0, u1, u2][k]? = some u → B < w.heap.size ∧ w.cell? ⟨B, k, none⟩ = some (.string ⟨u.toArray⟩) := by
  intro k u hk; obtain ⟨b', off', e', hb', hcell⟩ := h k u hk
  obtain ⟨rfl, rfl⟩ : B = b' ∧ 0 = off' := by simpa using e'
  have hcl := hcell 0 (sV u) rfl
  simp only [Nat.add_zero, Nat.zero_add, Nat.mul_one] at hcl; exact ⟨hb', hcl⟩
 exact ⟨(key 0 u0 rfl).1, (key 0 u0 rfl).2, (key 1 u1 rfl).2, (key 2 u2 rfl).2⟩
def strN : Value → Nat
 | .string b => b.size
 | _ => 0
theorem Zpi {v : Value} (l : List Pan) (s : Str) (w : World) (hL : LayB w) (h : SlP w v l) (hnm : ∀ p ∈ l, p.1.length ≤ 1000000) (hll : l.length ≤ 100000) (hs : s.length ≤ 1000000) :
  Calls Tryz.prog 54 #[v, sV s] w (RPB w (paeB l s)) := by
 have hc := fun W (hb : Below w.heap.size w W) => Zm2 l W (h.below hb) hnm hll
 have hf : ∀ A c' W, Rd ic 1 W A [pieE l, Z15 (decide (4096 < s.length)) 26] → Calls Tryz.prog 56 #[.slice A 2 c'] W (RV W (.int .i64 (Zpb l s))) := fun A c' W hr => Zjd [pieE l, Z15 (decide (4096 < s.length)) 26] A c' W (by simp [maxLen]) hr
 obtain ⟨E0, hE0⟩ : ∃ E, Zpb l s = E := ⟨_, rfl⟩
 have HP : Hid (paeB l s = if E0 = 0 then prsB l s else ([], 0, E0)) := by unfold Hid paeB; rw [hE0]
 have HOK : Hid (E0 = 0 → pieE l = 0 ∧ s.length ≤ 4096 ∧ l.length ≤ 16) := fun z => Zpc (hE0.trans z)
 rw [hE0] at hf
 obtain ⟨PE, hPE⟩ : ∃ E, pieE l = E := ⟨_, rfl⟩
 rw [hPE] at hc hf
 obtain ⟨xs, ⟨A, c, rfl, hlc, hcm, hr⟩, hx⟩ := h
 have HLN := Lib.hid hx.len
 have hl1 : xs.length ≤ l.length := Nat.le_of_eq HLN.out
 unfold sV
 have hq4 : 4096 < s.length ∨ ¬ 4096 < s.length := by omega
 obtain ⟨q4, hq⟩ : ∃ q, decide (4096 < s.length) = q := ⟨_, rfl⟩
 rw [hq] at hf
 have hqi : decide (4096 < (s.length : Int)) = q4 := by rw [← hq]; exact decide_eq_decide.2 (by omega)
 clear hE0 hPE hq4 hq
 go_enter Tryz.func54, Tryz.ntmps54
 go_wp2_with fail
 refine (hc _ (by (repeat first|exact J0|assumption|(apply J1;assumption)|apply J2|apply J3|apply J4))).mono ?_
 rintro e w2 ⟨rfl, hb2⟩
 go_wp2_with fail
 refine (Zjb _ 26 _).mono ?_
 rintro e w3 ⟨rfl, hb3⟩
 go_wp2_with fail
 go_must (refine (hf _ _ _ (Rd.ints2 (by simp) (by go_simp) (by go_simp))).mono ?_)
 rintro e w4 ⟨rfl, hb4⟩
 have hb4w : Below w.heap.size w w4 := by (repeat first|exact J0|assumption|(apply J1;assumption)|apply J2|apply J3|apply J4)
 clear hf hc hb2 hb3 hb4 hqi
 by_cases hz : E0 = 0
 ·have t0 : (E0 != 0) = false := by simp [hz]
  obtain ⟨hpi, hs4, hl16⟩ := HOK.out hz
  have HS : Hid (paeB l s = prsL l (Zaf s) [] 0) := by unfold Hid; rw [HP.out, if_pos hz]; rfl
  have HPV : Hid (∀ p ∈ l, panE p = 0) := (Zng hpi).2.2
  have hM0 : NmAt (w4.alloc (.map #[] 0)) w4.heap.size l 0 := NmAt.new w4 l
  clear hz hpi HOK HP; go_wp2; go_loopw [37] (fun t wr => ∃ k : Nat, k ≤ xs.length ∧ t = .int .i64 k ∧ NmAt wr w4.heap.size l k ∧ Below w4.heap.size w4 wr) (fun t _ => xs.length - (intOf t).toNat)
  case atStart => exact ⟨0, Nat.zero_le _, rfl, hM0, Z04 Z03 _⟩
  case round =>
   clear t0 hM0; obtain ⟨k, hk, rfl, hM, hbw⟩ := hrel; obtain ⟨wo, rfl⟩ : ∃ x, x = wr := ⟨_, rfl⟩
   have hbww := Z08 hbw hb4w
   by_cases hlt : k < xs.length
   ·have hkl : k < l.length := by omega
    have hp := ((hx.below hbww).get (List.getElem?_eq_getElem hlt) (List.getElem?_eq_getElem hkl)).nm
    have hnk : Hid ((l.getD k Zio).1 = xs[k].1) := by unfold Hid; rw [Znh hkl]; exact hp.symm
    obtain ⟨b, off, rfl, hb, e0, e1, e2, e3⟩ := (hr.below hbww).pan (List.getElem?_eq_getElem hlt)
    obtain ⟨x, hxe⟩ : ∃ x, xs[k] = x := ⟨_, rfl⟩
    rw [hxe] at hnk e0 e1 e2 e3; obtain ⟨nm, n1, ⟨a0, a1, a2⟩, ⟨b0, b1, b2⟩⟩ := x; obtain ⟨wx, hwx⟩ : ∃ X, wo.alloc (.cells #[.string ⟨nm.toArray⟩, .int .i64 n1, .slice a0 a1 a2, .slice b0 b1 b2] 97) = X := ⟨_, rfl⟩
    have hbo : Below wo.heap.size wo wx := by rw [← hwx]; exact Z04 Z03 _
    have hbx := Z08 hbo hbw
    obtain ⟨w12, hp12, hM12, hc12, hg12, hs12⟩ := (hM.below hbo).put nm hnk.out
    have hb12 : Below w4.heap.size w4 w12 := Z9f hbx hc12 (Nat.le_refl _)
    have hX := Blk.new wo 97 #[.string ⟨nm.toArray⟩, .int .i64 n1, .slice a0 a1 a2, .slice b0 b1 b2]
    simp only [sV, slV] at e0 e1 e2 e3; clear hxe hp; go_upto_region 8 with fail; obtain ⟨gx, hgx⟩ : ∃ X, wo.heap.size = X := ⟨_, rfl⟩
    rw [hwx, hgx] at hX; rw [hgx]; clear hwx hgx e0 e1 e2 e3 hb hM hbo; have fX := hX.facts
    go_wp2; go_roundw; case rel => exact ⟨k + 1, by omega, by go_num, hM12, hb12⟩
    case measure => simp [intOf]; omega
   ·obtain rfl : k = xs.length := by omega
    rw [HLN.out] at hM; have hbwo := hbww
    clear hbww hr hx hlt hk; obtain ⟨R, hR⟩ : ∃ R, w4.heap.size = R := ⟨_, rfl⟩
    rw [hR] at hM ⊢; clear hR hbw; go_wp2; go_loopw [1, 11, 12] (fun t o i wr => ∃ (r : Str) (out : List Plc), t = .string ⟨r.toArray⟩ ∧ i = .int .i64 out.length ∧ out.length + r.length ≤ s.length ∧ Own plc 3 wo.heap.size 100 wr o out ∧ Hid (paeB l s = prsL l (Zaf r) out out.length) ∧ Below wo.heap.size wo wr) (fun t _ _ _ => strN t)
    case atStart => exact ⟨s, [], rfl, rfl, by simp, Own.nil_, HS, Z03⟩
    case round =>
     clear HS; obtain ⟨r, out, rfl, rfl, hlen, hO, HS, hbr⟩ := hrel; obtain ⟨w5, rfl⟩ : ∃ x, x = wr := ⟨_, rfl⟩
     have hb5 := Z08 hbr hbwo
     have hM5 := hM.below hbr
     have hL5 := hL.below hb5
     by_cases hne : r = []
     ·subst hne
      have HE : Hid (paeB l s = (out, 0, 0)) := HS
      obtain ⟨Ao, co, rfl⟩ := hO.shape; go_wp2; refine bodyPost_ret (v := .tuple #[.slice Ao out.length co, .int .i64 0, .int .i64 0]) (by simp [results, Tryz.results54, go_sem]) rfl ?_
      exact ⟨_, by rw [HE.out], by rw [HE.out]; exact hO.base_mono hbwo.size, hb5⟩
     ·obtain ⟨a, r2, q, hcut, hr2, hal, hpc⟩ := Zpd l hne out out.length
      have HS2 := Lib.hid (HS.out.trans hpc)
      have hcu := fun W (hb : Below w5.heap.size w5 W) => Znz r (by omega) W (hL5.lay.below hb)
      rw [hcut] at hcu; have hsp := fun W (hb : Below w5.heap.size w5 W) => Zac a (by omega) W (hL5.lay.below hb)
      have hne' : (r == []) = false := by simp [hne]
      obtain ⟨W, hW⟩ : ∃ W, Za9 a = W := ⟨_, rfl⟩
      have HWS := Lib.hid (fun x (hx : x ∈ W) => (Zae (s := a) (w := x) (by rw [hW]; exact hx)))
      have hWl := Zab a
      rw [hW] at HS2 hsp hWl; unfold sV at hcu hsp; simp only at hcu
      clear hcut hpc hW HS; go_wp2_with fail; go_wp2_with fail; refine (hcu _ (by (repeat first|exact J0|assumption|(apply J1;assumption)|apply J2|apply J3|apply J4))).mono ?_
      rintro e w6 ⟨rfl, hb6⟩; go_wp2_with fail; go_wp2_with fail; refine (hsp _ (by (repeat first|exact J0|assumption|(apply J1;assumption)|apply J2|apply J3|apply J4))).mono ?_
      rintro e w7 ⟨cc, rfl, hr7, hcl7, hcm7, hb7⟩; have hb57 : Below w5.heap.size w5 w7 := by (repeat first|exact J0|assumption|(apply J1;assumption)|apply J2|apply J3|apply J4)
      obtain ⟨g7, hg7⟩ : ∃ X, w6.heap.size = X := ⟨_, rfl⟩
      rw [hg7] at hr7 ⊢; have hO7 := hO.below hb57
      have hM7 := hM5.below hb57
      have hL7 := hL5.below hb57
      have hbr7 := Z08 hb57 hbr
      have hbw7 := Z08 hb57 hb5
      clear hcu hsp hb6 hb7 hg7 hne' hO hM5 hL5 hb5 hbr hb57; cases q
      ·have HE : Hid (paeB l s = ([], (out.length : Int), 25)) := HS2.out
       clear HS2 hr7 hM7 hO7; go_upto_region 17 with fail; refine Z0z [0, 1, 2, 3, 4, 5, 6, 7, 8, 9, 10, 11, 12, 13, 14, 15, 16, 17] [] [18, 19, 20] (by kernel_rfl) (by kernel_rfl) (fun d _ _ _ _ h => by cases d <;> exact h) ?_
       simp only [List.map_cons, List.map_nil, List.getD_cons_zero, List.getD_cons_succ]; repeat (go_big_quiet_step (fail))
       refine wpQuiet_nil ?_; refine Z10 ?_; go_wp2; refine bodyPost_ret (v := .tuple #[.slice none 0 0, .int .i64 out.length, .int .i64 25]) (by simp [results, Tryz.results54, go_sem]) rfl ?_
       exact ⟨_, by rw [HE.out], by rw [HE.out]; exact Own.nil_, by (repeat first|exact J0|assumption|(apply J1;assumption)|apply J2|apply J3|apply J4)⟩
      ·have HS3 : Hid (paeB l s = if linE l W out = 0 then prsL l (Zaf r2) (out ++ [linP l W]) (out.length + 1) else ([], (out.length : Int), linE l W out)) := HS2.out
       clear HS2; by_cases h3 : W.length = 3
       ·obtain ⟨u0, u1, u2, rfl⟩ := Zph h3
        obtain ⟨hg7, c0, c1, c2⟩ := hr7.three; rw [Zpf, Zpg] at HS3; have hu1 : u1.length ≤ 1000000 := by have := HWS.out u1 (by simp); omega
        have hu2 : u2.length ≤ 1000000 := by have := HWS.out u2 (by simp); omega
        have hdi := fun W (hb : Below w7.heap.size w7 W) => Zo3 u1 W (hL7.below hb)
        have hin := fun W (hb : Below w7.heap.size w7 W) => Znx u2 hu2 W (hL7.lay.below hb)
        obtain ⟨⟨na, q2⟩, hinr⟩ : ∃ z, intR u2 = z := ⟨_, rfl⟩
        rw [hinr] at hin HS3; obtain ⟨d, hd⟩ : ∃ z, dirB u1 = z := ⟨_, rfl⟩
        rw [hd] at hdi HS3; unfold sV at hdi hin; simp only [List.length_cons, List.length_nil, Nat.zero_add, Nat.reduceAdd] at HS3 hin hcl7 ⊢; clear h3 HWS hinr hd hWl hr7; by_cases h0 : u0 = []
        ·subst h0
         have HE : Hid (paeB l s = ([], (out.length : Int), 25)) := by unfold Hid; rw [HS3.out]; simp
         clear HS3 hM7 hO7 hdi hin; go_upto_region 17 with fail; refine Z0z [0, 1, 2, 3, 4, 5, 6, 7, 8, 9, 10, 11, 12, 13, 14, 15, 16, 17] [] [18, 19, 20] (by kernel_rfl) (by kernel_rfl) (fun d _ _ _ _ h => by cases d <;> exact h) ?_
         simp only [List.map_cons, List.map_nil, List.getD_cons_zero, List.getD_cons_succ]; repeat (go_big_quiet_step (fail))
         refine wpQuiet_nil ?_; refine Z10 ?_; go_wp2; refine bodyPost_ret (v := .tuple #[.slice none 0 0, .int .i64 out.length, .int .i64 25]) (by simp [results, Tryz.results54, go_sem]) rfl ?_
         exact ⟨_, by rw [HE.out], by rw [HE.out]; exact Own.nil_, by (repeat first|exact J0|assumption|(apply J1;assumption)|apply J2|apply J3|apply J4)⟩
        ·have h0' : (u0 == []) = false := by simp [h0]
         rw [if_neg h0] at HS3; clear h0; cases d
         ·have HE : Hid (paeB l s = ([], (out.length : Int), 25)) := by unfold Hid; rw [HS3.out]; simp
          clear HS3 hM7 hO7 hin; go_upto_region 17 with fail; refine Z0z [0, 1, 2, 3, 4, 5, 6, 7, 8, 9, 10, 11, 12, 13, 14, 15, 16, 17] [] [18, 19, 20] (by kernel_rfl) (by kernel_rfl) (fun d _ _ _ _ h => by cases d <;> exact h) ?_
          simp only [List.map_cons, List.map_nil, List.getD_cons_zero, List.getD_cons_succ]; repeat (go_big_quiet_step (fail))
          refine wpQuiet_nil ?_; refine Z10 ?_; go_wp2_with fail; go_wp2_with fail; refine (hdi _ (by (repeat first|exact J0|assumption|(apply J1;assumption)|apply J2|apply J3|apply J4))).mono ?_
          rintro e w8 ⟨rfl, hb8⟩; go_wp2; refine bodyPost_ret (v := .tuple #[.slice none 0 0, .int .i64 out.length, .int .i64 25]) (by simp [results, Tryz.results54, go_sem]) rfl ?_
          exact ⟨_, by rw [HE.out], by rw [HE.out]; exact Own.nil_, by (repeat first|exact J0|assumption|(apply J1;assumption)|apply J2|apply J3|apply J4)⟩
         ·go_upto_region 17 with fail
          refine Z0z [0, 1, 2, 3, 4, 5, 6, 7, 8, 9, 10, 11, 12, 13, 14, 15, 16, 17] [] [18, 19, 20] (by kernel_rfl) (by kernel_rfl) (fun d _ _ _ _ h => by cases d <;> exact h) ?_
          simp only [List.map_cons, List.map_nil, List.getD_cons_zero, List.getD_cons_succ]; repeat (go_big_quiet_step (fail))
          refine wpQuiet_nil ?_; refine Z10 ?_; go_wp2_with fail; go_wp2_with fail; refine (hdi _ (by (repeat first|exact J0|assumption|(apply J1;assumption)|apply J2|apply J3|apply J4))).mono ?_
          rintro e w8 ⟨rfl, hb8⟩; have c28 := ((show Below w7.heap.size w7 w8 by (repeat first|exact J0|assumption|(apply J1;assumption)|apply J2|apply J3|apply J4)).cell (p := ⟨g7, 2, none⟩) hg7).trans c2
          have c18 := ((show Below w7.heap.size w7 w8 by (repeat first|exact J0|assumption|(apply J1;assumption)|apply J2|apply J3|apply J4)).cell (p := ⟨g7, 1, none⟩) hg7).trans c1
          have c08 := ((show Below w7.heap.size w7 w8 by (repeat first|exact J0|assumption|(apply J1;assumption)|apply J2|apply J3|apply J4)).cell (p := ⟨g7, 0, none⟩) hg7).trans c0
          clear c0 c1 c2 hdi; go_wp2_with fail; go_wp2_with fail; refine (hin _ (by (repeat first|exact J0|assumption|(apply J1;assumption)|apply J2|apply J3|apply J4))).mono ?_
          rintro e w9 ⟨rfl, hb9⟩; have h89 : Below w8.heap.size w8 w9 := by (repeat first|exact J0|assumption|(apply J1;assumption)|apply J2|apply J3|apply J4)
          have hb79 : Below w7.heap.size w7 w9 := by (repeat first|exact J0|assumption|(apply J1;assumption)|apply J2|apply J3|apply J4)
          have hg8 : g7 < w8.heap.size := Nat.lt_of_lt_of_le hg7 (show Below w7.heap.size w7 w8 by (repeat first|exact J0|assumption|(apply J1;assumption)|apply J2|apply J3|apply J4)).size
          have hg9 : g7 < w9.heap.size := Nat.lt_of_lt_of_le hg7 hb79.size
          have c19 := (h89.cell (p := ⟨g7, 1, none⟩) hg8).trans c18
          have c09 := (h89.cell (p := ⟨g7, 0, none⟩) hg8).trans c08
          cases q2
          ·have HE : Hid (paeB l s = ([], (out.length : Int), 25)) := by unfold Hid; rw [HS3.out]; simp
           clear HS3 hM7 hO7 hin c28 c18 c08; go_wp2; refine bodyPost_ret (v := .tuple #[.slice none 0 0, .int .i64 out.length, .int .i64 25]) (by simp [results, Tryz.results54, go_sem]) rfl ?_
           exact ⟨_, by rw [HE.out], by rw [HE.out]; exact Own.nil_, by (repeat first|exact J0|assumption|(apply J1;assumption)|apply J2|apply J3|apply J4)⟩
          ·obtain ⟨id, hid⟩ : ∃ z, idxP l u0 = z := ⟨_, rfl⟩
           rw [hid] at HS3; have hlk := (hM7.below hb79).look u0
           rw [Zo1, hid] at hlk; obtain ⟨n, hn⟩ : ∃ z, id.getD 0 = z := ⟨_, rfl⟩
           obtain ⟨io, hio⟩ : ∃ z, id.isSome = z := ⟨_, rfl⟩
           rw [hn, hio] at HS3 hlk; have hO9 := hO7.below hb79
           have hL9 := hL7.below hb79
           have hbr9 := Z08 hb79 hbr7
           have hbw9 := Z08 hb79 hbw7
           have hM9 := hM7.below hb79
           have hX := Blk.new w9 3 #[.int .i64 (n : Int)]
           clear hid hn hio c28 c18 c08 hin hM7 hO7 hL7 hbr7 hbw7 hb79 h89 hg8 hb8 hb9 hg7; go_upto_region 23 with fail; obtain ⟨wx, hwx⟩ : ∃ X, w9.alloc (.cells #[.int .i64 (n : Int)] 3) = X := ⟨_, rfl⟩
           obtain ⟨gx, hgx⟩ : ∃ X, w9.heap.size = X := ⟨_, rfl⟩
           have hbx : Below w9.heap.size w9 wx := by rw [← hwx]; exact Z04 Z03 _
           have hOx := hO9.below hbx
           have hLx := hL9.below hbx
           have hbrx := Z08 hbx hbr9
           have hbwx := Z08 hbx hbw9
           have hMx := hM9.below hbx
           have c1x := (hbx.cell (p := ⟨g7, 1, none⟩) hg9).trans c19
           have hg7x : g7 < wx.heap.size := Nat.lt_of_lt_of_le hg9 hbx.size
           rw [hwx, hgx] at hX; rw [hwx, hgx]; clear hwx hgx hbx hO9 hL9 hbr9 hbw9 hM9 c19 c09 hg9 hlk; obtain ⟨Ao, co, rfl, hoc, hocm, hro⟩ := hOx.rd Zj7
           have hcn := fun W (hb : Below wx.heap.size wx W) => Zo7 out Ao co gx (n : Int) W (hro.below hb) (by omega) (hX.below hb)
           have hf3 : ∀ A c' W, Rd ic 1 W A [Z15 (!io) 10, Z15 (useB out (n : Int)) 9, atE_ na] → Calls Tryz.prog 56 #[.slice A 3 c'] W (RV W (.int .i64 (Z17 [Z15 (!io) 10, Z15 (useB out (n : Int)) 9, atE_ na]))) := fun A c' W hr => Zjd [Z15 (!io) 10, Z15 (useB out (n : Int)) 9, atE_ na] A c' W (by simp [maxLen]) hr
           have hca := fun W => Zjg na W
           obtain ⟨E, hE⟩ : ∃ E, Z17 [Z15 (!io) 10, Z15 (useB out (n : Int)) 9, atE_ na] = E := ⟨_, rfl⟩
           rw [if_pos trivial, if_pos trivial, hE] at HS3; rw [hE] at hf3; obtain ⟨ub, hub⟩ : ∃ z, useB out (n : Int) = z := ⟨_, rfl⟩
           rw [hub] at hf3 hcn; obtain ⟨aE, haE⟩ : ∃ z, atE_ na = z := ⟨_, rfl⟩
           rw [haE] at hf3 hca; clear hE hub haE; have fX := hX.facts
           go_wp2_with fail; refine (hcn _ (by (repeat first|exact J0|assumption|(apply J1;assumption)|apply J2|apply J3|apply J4))).mono ?_
           rintro e w10 ⟨rfl, hb10⟩; go_wp2_with fail; refine (Zjb _ 10 _).mono ?_
           rintro e w11 ⟨rfl, hb11⟩; go_wp2_with fail; refine (Zjb _ 9 _).mono ?_
           rintro e w12 ⟨rfl, hb12⟩; go_wp2_with fail; refine (hca _).mono ?_
           rintro e w13 ⟨rfl, hb13⟩; go_wp2_with fail; go_must (refine (hf3 _ _ _ (Rd.ints3 (by simp) (by go_simp) (by go_simp) (by go_simp))).mono ?_)
           rintro e w14 ⟨rfl, hb14⟩; have hbx14 : Below wx.heap.size wx w14 := by (repeat first|exact J0|assumption|(apply J1;assumption)|apply J2|apply J3|apply J4)
           have hX14 := hX.below hbx14
           have hO14 := hOx.below hbx14
           have hL14 := hLx.below hbx14
           have hbr14 := Z08 hbx14 hbrx
           have hbw14 := Z08 hbx14 hbwx
           have c114 := (hbx14.cell (p := ⟨g7, 1, none⟩) hg7x).trans c1x
           have hg14 : g7 < w14.heap.size := Nat.lt_of_lt_of_le hg7x hbx14.size
           clear hcn hf3 hca hb10 hb11 hb12 hb13 hb14 hbx14 hX hOx hLx hbrx hbwx hMx c1x hg7x fX hro; by_cases hz : E = 0
           ·have t0 : (E != 0) = false := by simp [hz]
            have HN : Hid (paeB l s = prsL l (Zaf r2) (out ++ [((n : Int), decide (u1 = dirS true), na)]) (out.length + 1)) := by unfold Hid; rw [HS3.out, if_pos hz]
            have hlE : (out ++ [((n : Int), decide (u1 = dirS true), na)]).length = out.length + 1 := by simp
            have hdn := hL14.dn
            have hd0 := hL14.pos
            have fX := hX14.facts
            obtain ⟨dv, hdv⟩ : ∃ z, (u1 == [100, 111, 119, 110]) = z := ⟨_, rfl⟩
            have HDD : decide (u1 = dirS true) = dv := by
             rw [← hdv]; by_cases e : u1 = dirS true
             ·rw [decide_eq_true e, e]; rfl
             ·rw [decide_eq_false e]; symm; rw [beq_eq_false_iff_ne]; exact e
            rw [HDD] at HN hlE; clear HDD; clear hz HS3; go_upto_region 27 with fail; refine Z0z [0, 1, 2, 3, 4, 5, 6, 7, 8, 9] [(10, false)] [11, 12] (by kernel_rfl) (by kernel_rfl) (fun d _ _ _ _ h => by cases d <;> exact h) ?_
            simp only [List.map_cons, List.map_nil, List.getD_cons_zero, List.getD_cons_succ]; repeat (go_big_quiet_step (fail))
            refine wpQuiet_nil ?_; refine Z11 rfl (fun K hK => ?_); go_simp; refine hK _ _ (by (repeat first|exact J0|assumption|(apply J1;assumption)|apply J2|apply J3|apply J4)) ?_
            clear hK K; refine Z10 ?_; try rw [hdv]
            obtain ⟨wy, hwy⟩ : ∃ X, (w14.alloc (.cells #[.int .i64 (n : Int), .bool dv, .int .i64 na] 100)).drew = X := ⟨_, rfl⟩
            obtain ⟨gy, hgy⟩ : ∃ X, w14.heap.size = X := ⟨_, rfl⟩
            have hal14 : Below w14.heap.size w14 wy := by rw [← hwy]; exact Z05 (Z04 Z03 _)
            have hu : Sl plc 3 wy (.slice (some ⟨gy, 0, none⟩) 1 1) [((n : Int), dv, na)] := by
             rw [← hwy, ← hgy]; exact (Sl.oneG (enc := plc) (sz := 3) w14 100 ((n : Int), dv, na) #[.int .i64 n, .bool dv, .int .i64 na] rfl).below (Z05 Z03)
            have hOy := hO14.below hal14
            have hbry := Z08 hal14 hbr14
            rw [hwy, hgy]; clear hwy hgy hal14 hO14 hbr14 fX c114 hdn hd0 hg14 hX14 hL14 hdv; go_wp2_with (at_builtin; refine Z3y rfl Zja Zj7 Zj9 _ _ rfl wo.heap.size _ _ _ [((n : Int), dv, na)] rfl rfl hOy hu (by simp [maxLen]; omega) (by simp; omega) hbry.size ?_; intro v15 w15 hO15 hg15)
            have hbr15 : Below wo.heap.size wo w15 := Z09 hg15 hbry (fun j e => (hOy.lt j e).1)
            go_wp2; go_roundw; case rel => exact ⟨r2, out ++ [((n : Int), dv, na)], rfl, by rw [hlE]; go_num, by rw [hlE]; omega, hO15, by rw [hlE]; exact HN, hbr15⟩
            case measure => simp [strN, ByteArray.size]; omega
           ·have t0 : (E != 0) = true := by simp [hz]
            have HE : Hid (paeB l s = ([], (out.length : Int), E)) := by unfold Hid; rw [HS3.out, if_neg hz]
            clear hz HS3; go_wp2; refine bodyPost_ret (v := .tuple #[.slice none 0 0, .int .i64 out.length, .int .i64 E]) (by simp [results, Tryz.results54, go_sem]) rfl ?_
            exact ⟨_, by rw [HE.out], by rw [HE.out]; exact Own.nil_, by (repeat first|exact J0|assumption|(apply J1;assumption)|apply J2|apply J3|apply J4)⟩
       ·have HE : Hid (paeB l s = ([], (out.length : Int), 25)) := by unfold Hid; rw [HS3.out, Zpe h3, if_neg (by decide)]
        have t3 : (W.length = 3) = False := eq_false h3
        have t4 : ((W.length : Int) = 3) = False := eq_false (by omega)
        have t5 : ((W.length : Int) != 3) = true := by simp; omega
        clear HS3 hr7 hM7 hO7 h3; go_upto_region 17 with fail; refine Z0z [0, 1, 2, 3, 4, 5, 6, 7, 8, 9, 10, 11, 12, 13, 14, 15, 16, 17] [] [18, 19, 20] (by kernel_rfl) (by kernel_rfl) (fun d _ _ _ _ h => by cases d <;> exact h) ?_
        simp only [List.map_cons, List.map_nil, List.getD_cons_zero, List.getD_cons_succ]; repeat (go_big_quiet_step (fail))
        refine wpQuiet_nil ?_; refine Z10 ?_; go_wp2; refine bodyPost_ret (v := .tuple #[.slice none 0 0, .int .i64 out.length, .int .i64 25]) (by simp [results, Tryz.results54, go_sem]) rfl ?_
        exact ⟨_, by rw [HE.out], by rw [HE.out]; exact Own.nil_, by (repeat first|exact J0|assumption|(apply J1;assumption)|apply J2|apply J3|apply J4)⟩
 ·have t0 : (E0 != 0) = true := by simp [hz]
  have HS : Hid (paeB l s = ([], 0, E0)) := by unfold Hid; rw [HP.out, if_neg hz]
  clear hz HOK HP; go_wp2; refine bodyPost_ret (v := .tuple #[.slice none 0 0, .int .i64 0, .int .i64 E0]) (by simp [results, Tryz.results54, go_sem]) rfl ?_
  exact ⟨_, by rw [HS.out], by rw [HS.out]; exact Own.nil_, hb4w⟩
end Go.Proofs.YtpcgeihemkhkjaaGreatDoor
