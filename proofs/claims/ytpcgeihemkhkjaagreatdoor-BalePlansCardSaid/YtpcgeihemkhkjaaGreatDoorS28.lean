/- CheckPieces, checkPlaces, checkBoth, walked. Conditions: bounds. -/
import Derived.Test.YtpcgeihemkhkjaaGreatDoorS27
namespace Go.Proofs.YtpcgeihemkhkjaaGreatDoor
open Go.RowKit Go.ChangeMaps
set_option maxHeartbeats 4000000
set_option maxRecDepth 100000
attribute [local go_sem] Oper.semAt_some
theorem Zlx {l : List Pan} {k : Nat} (hk : k < l.length) : pieG (l.take k) (l.drop k) = if Ziu (l.take k) l[k] = 0 then pieG (l.take (k + 1)) (l.drop (k + 1)) else Ziu (l.take k) l[k] := by
 rw [List.drop_eq_getElem_cons hk, pieG, ← List.take_succ_eq_append_getElem hk]
def Zly (done : List Pan) (p : Pan) : Int := Z17 [panE p, Z15 (memB (done.map fun z : Pan => z.1) p.1) 9]
def Zlz (p : Pan) : Int := Z17 [panE (trnP p), Zbm p]
theorem Zm0 (done : List Pan) (p : Pan) : Ziu done p = if Zly done p = 0 then Zlz p else Zly done p := by
 unfold Ziu Zly Zlz
 rw [Zls]
 simp only [Z17]
 split
 ·split <;> rfl
 ·rfl
theorem Zm1 {done : List Pan} {p : Pan} (h : Zly done p = 0) : panE p = 0 ∧ p.1 ∉ done.map fun z : Pan => z.1 := by
 unfold Zly at h
 obtain ⟨h1, h2⟩ := Z9l h
 refine ⟨h1, fun hm => ?_⟩
 rw [Zlq hm] at h2
 cases h2
theorem Zm2 {v : Value} (l : List Pan) (w : World) (h : SlP w v l) (hnm : ∀ p ∈ l, p.1.length ≤ 1000000) (hll : l.length ≤ 100000) : Calls Tryz.prog 58 #[v] w (RV w (.int .i64 (pieE l))) := by
 obtain ⟨xs, ⟨A, c, rfl, hlc, hcm, hr⟩, hx⟩ := h
 have HLN := Lib.hid hx.len
 have hl1 : xs.length ≤ l.length := Nat.le_of_eq HLN.out
 have hl2 : l.length ≤ xs.length := Nat.le_of_eq HLN.out.symm
 have hHN := Lib.hid hnm
 clear hnm
 by_cases h16 : 16 < l.length
 ·have HE : Hid (pieE l = 5) := by unfold Hid pieE; rw [if_pos h16]
  have t1 : (16 < xs.length) = True := eq_true (by omega)
  have t2 : (16 < (xs.length : Int)) = True := eq_true (by omega)
  clear h16; go_enter Tryz.func58, Tryz.ntmps58
  go_wp2; go_ret; exact ⟨by rw [HE.out]; rfl, by (repeat first|exact J0|assumption|(apply J1;assumption)|apply J2|apply J3|apply J4)⟩
 ·have HE : Hid (pieE l = pieG (l.take 0) (l.drop 0)) := by unfold Hid pieE; rw [if_neg h16]; rfl
  have t1 : (16 < xs.length) = False := eq_false (by omega)
  have t2 : (16 < (xs.length : Int)) = False := eq_false (by omega)
  have hl16 : xs.length ≤ 16 := by omega
  clear h16; have hM0 : Zlp sV (w.alloc (.map #[] 0)) w.heap.size ([] : List Str) := Zlp.new w
  go_enter Tryz.func58, Tryz.ntmps58
  go_wp2; go_loopw [18] (fun s wr => ∃ k : Nat, k ≤ xs.length ∧ s = .int .i64 k ∧ Hid (pieE l = pieG (l.take k) (l.drop k)) ∧ Zlp sV wr w.heap.size ((l.take k).map fun z : Pan => z.1) ∧ Below w.heap.size w wr) (fun s _ => xs.length - (intOf s).toNat)
  case atStart => exact ⟨0, Nat.zero_le _, rfl, HE, by simpa using hM0, Z04 Z03 _⟩
  case round =>
   clear t1 t2 hM0; obtain ⟨k, hk, rfl, HK, hM, hbw⟩ := hrel; obtain ⟨wo, rfl⟩ : ∃ x, x = wr := ⟨_, rfl⟩
   by_cases hlt : k < xs.length
   ·have hkl : k < l.length := by omega
    have hp := (hx.below hbw).get (List.getElem?_eq_getElem hlt) (List.getElem?_eq_getElem hkl)
    have hnk := hHN.out _ (List.getElem_mem hkl)
    have HF := Lib.hid (Zlx hkl)
    have HT := Lib.hid (List.take_succ_eq_append_getElem hkl)
    obtain ⟨b, off, rfl, hb, e0, e1, e2, e3⟩ := (hr.below hbw).pan (List.getElem?_eq_getElem hlt)
    obtain ⟨p, hpe⟩ : ∃ p, l[k] = p := ⟨_, rfl⟩
    rw [hpe] at hp hnk HF HT; obtain ⟨x, hxe⟩ : ∃ x, xs[k] = x := ⟨_, rfl⟩
    rw [hxe] at hp e0 e1 e2 e3; obtain ⟨wx, hwx⟩ : ∃ X, wo.alloc (.cells (pnc x).toArray 97) = X := ⟨_, rfl⟩
    have hbo : Below wo.heap.size wo wx := by rw [← hwx]; exact Z04 Z03 _
    have hcp := fun W (hb : Below wx.heap.size wx W) => Zf5 p W hnk (hp.left.below (Z08 hb hbo)) (hp.right.below (Z08 hb hbo))
    have htn := fun W (hb : Below wx.heap.size wx W) => Zge p W hnk (hp.left.below (Z08 hb hbo)) (hp.right.below (Z08 hb hbo))
    have hnt := fun W (hb : Below wx.heap.size wx W) => Zfh p W hnk (hp.left.below (Z08 hb hbo)) (hp.right.below (Z08 hb hbo))
    rw [← hp.nm, ← hp.wd] at hcp htn hnt; obtain ⟨D, hD⟩ : ∃ D, l.take k = D := ⟨_, rfl⟩
    rw [hD] at HK HF HT hM; have HAB := Lib.hid (Zm0 D p)
    have HZA := Lib.hid (Zm1 (done := D) (p := p))
    have hfa : ∀ A c' W, Rd ic 1 W A [panE p, Z15 (memB (D.map fun z : Pan => z.1) x.1) 9] → Calls Tryz.prog 56 #[.slice A 2 c'] W (RV W (.int .i64 (Zly D p))) := fun A c' W hr => by
     unfold Zly; rw [← hp.nm]; exact Zjd [panE p, Z15 (memB (D.map fun z : Pan => z.1) x.1) 9] A c' W (by simp [maxLen]) hr
    have hfb : ∀ A c' W, Rd ic 1 W A [panE (trnP p), Zbm p] → Calls Tryz.prog 56 #[.slice A 2 c'] W (RV W (.int .i64 (Zlz p))) := fun A c' W hr => Zjd [panE (trnP p), Zbm p] A c' W (by simp [maxLen]) hr
    have hM1 := hM.below hbo
    have hlk : ∀ g : Bel wx.heap.size wx, (Instr.lookup 199 (.map (some w.heap.size)) (.string ⟨x.1.toArray⟩) false).run Tryz.prog g.val = .ok (.bool (memB (D.map fun z : Pan => z.1) x.1)) g.val := fun g => (hM1.below g.below).lookS x.1
    have hput := fun W (hb : Below wx.heap.size wx W) => (hM1.below hb).put Zj6 Zln x.1
    obtain ⟨E, hE⟩ : ∃ E, Zly D p = E := ⟨_, rfl⟩
    rw [hE] at hfa HAB HZA; obtain ⟨E2, hE2⟩ : ∃ E, Zlz p = E := ⟨_, rfl⟩
    rw [hE2] at hfb HAB; obtain ⟨E3, hE3⟩ : ∃ E, Zbm p = E := ⟨_, rfl⟩
    rw [hE3] at hfb hnt; have HPC : Hid (E = 0 → pcE (panE p) (turQ p) = panE (trnP p)) := fun h => by unfold pcE; rw [if_neg (by simp [(HZA.out h).1])]; rfl
    have HPN : Hid (E = 0 → x.1 ∉ D.map fun z : Pan => z.1) := fun h => by rw [hp.nm]; exact (HZA.out h).2
    have HPR : Hid (pcR (panE p) (turQ p) = pcR (panE p) (turQ p)) := rfl
    obtain ⟨T1, hT1⟩ : ∃ E, pcE (panE p) (turQ p) = E := ⟨_, rfl⟩
    rw [hT1] at htn HPC; obtain ⟨⟨tn, tw, tl, tr⟩, hTR⟩ : ∃ E, pcR (panE p) (turQ p) = E := ⟨_, rfl⟩
    rw [hTR] at htn; obtain ⟨E4, hE4⟩ : ∃ E, panE (trnP p) = E := ⟨_, rfl⟩
    rw [hE4] at hfb HPC; obtain ⟨E1, hE1⟩ : ∃ E, panE p = E := ⟨_, rfl⟩
    rw [hE1] at hfa hcp; obtain ⟨NL, hNL⟩ : ∃ E, Z5w E3 (netL p) = E := ⟨_, rfl⟩
    rw [hNL] at hnt; obtain ⟨q, hq⟩ : ∃ q, memB (D.map fun z : Pan => z.1) x.1 = q := ⟨_, rfl⟩
    rw [hq] at hfa hlk; have HPUT := Lib.hid hput
    have HNM : Hid (x.1 = p.1) := hp.nm
    obtain ⟨nm, n1, ⟨a0, a1, a2⟩, ⟨b0, b1, b2⟩⟩ := x; unfold RPN at htn; simp only [sV, slV] at e0 e1 e2 e3 hcp htn hnt hlk; clear hxe hE hE2 hE3 hE4 hT1 hTR hE1 hNL hq hD hnk hput hp hpe HZA HPR; have hX := Blk.new wo 97 #[.string ⟨nm.toArray⟩, .int .i64 n1, .slice a0 a1 a2, .slice b0 b1 b2]
    go_upto_region 7 with fail; have hwx' : wo.alloc (.cells #[.string ⟨nm.toArray⟩, .int .i64 n1, .slice a0 a1 a2, .slice b0 b1 b2] 97) = wx := hwx
    obtain ⟨gx, hgx⟩ : ∃ X, wo.heap.size = X := ⟨_, rfl⟩
    have hbx := Z08 hbo hbw
    rw [hwx', hgx] at hX; rw [hwx', hgx]; clear hwx hwx' hgx e0 e1 e2 e3 hb hM hbo; have fX := hX.facts
    refine Z0z [0, 2, 3, 4, 5] [(1, false)] [6, 7, 8, 9] (by kernel_rfl) (by kernel_rfl) (fun d _ _ _ _ h => by cases d <;> exact h) ?_
    simp only [List.map_cons, List.map_nil, List.getD_cons_zero, List.getD_cons_succ]; repeat (go_big_quiet_step (fail))
    refine wpQuiet_nil ?_; refine Z11 rfl (fun K hK => ?_); go_simp; refine (hcp _ (by (repeat first|exact J0|assumption|(apply J1;assumption)|apply J2|apply J3|apply J4))).mono ?_
    rintro e w8 ⟨rfl, hb8⟩; refine hK _ _ (by (repeat first|exact J0|assumption|(apply J1;assumption)|apply J2|apply J3|apply J4)) ?_
    clear hK K; have hX_w8 := hX.below (show Below _ _ w8 by (repeat first|exact J0|assumption|(apply J1;assumption)|apply J2|apply J3|apply J4))
    have fhX_w8 := hX_w8.facts
    refine Z10 ?_; clear hlk hcp; go_wp2_with fail; refine (Zjb _ 9 _).mono ?_
    rintro e w10 ⟨rfl, hb10⟩; replace hX := hX.below (show Below _ _ w10 by (repeat first|exact J0|assumption|(apply J1;assumption)|apply J2|apply J3|apply J4))
    replace fhX := hX.facts
    go_wp2_with fail; go_must (refine (hfa _ _ _ (Rd.ints2 (by simp) (by go_simp) (by go_simp))).mono ?_)
    rintro e w11 ⟨rfl, hb11⟩; have hX11 := hX.below (show Below _ _ w11 by (repeat first|exact J0|assumption|(apply J1;assumption)|apply J2|apply J3|apply J4))
    have hb1x : Below wx.heap.size wx w11 := by (repeat first|exact J0|assumption|(apply J1;assumption)|apply J2|apply J3|apply J4)
    clear hfa hb8 hb10 hb11 hX fX hX_w8 fhX_w8; by_cases hz : E = 0
    ·have t0 : (E != 0) = false := by simp [hz]
     obtain rfl := (HPC.out hz)
     have hnew := HPN.out hz
     have HA2 : Hid (Ziu D p = E2) := by unfold Hid; rw [HAB.out, if_pos hz]
     clear hz; have fX := hX11.facts
     go_wp2_with fail; refine (htn _ hb1x).mono ?_
     rintro e w12 ⟨u1, u2, rfl, hu1, hu2, hb12⟩; replace hX11 := hX11.below (show Below _ _ w12 by (repeat first|exact J0|assumption|(apply J1;assumption)|apply J2|apply J3|apply J4))
     replace fhX11 := hX11.facts
     obtain ⟨A1, c1, rfl⟩ := hu1.shape; obtain ⟨A2, c2, rfl⟩ := hu2.shape; have hb2x : Below wx.heap.size wx (w12.alloc (.cells #[.string ⟨tn.toArray⟩, .int .i64 tw, .slice A1 tl.length c1, .slice A2 tr.length c2] 97)) := Z04 (Z08 hb12 hb1x) _
     have hX12 := hX11.alloc (.cells #[.string ⟨tn.toArray⟩, .int .i64 tw, .slice A1 tl.length c1, .slice A2 tr.length c2] 97)
     have fX12 := hX12.facts
     clear htn hu1 hu2; go_wp2_with fail; refine (hnt _ hb2x).mono ?_
     rintro e w13 ⟨v13, rfl, hO13, hb13⟩; replace hX12 := hX12.below (show Below _ _ w13 by (repeat first|exact J0|assumption|(apply J1;assumption)|apply J2|apply J3|apply J4))
     replace fhX12 := hX12.facts
     obtain ⟨A13, c13, rfl⟩ := hO13.shape; go_wp2_with fail; go_must (refine (hfb _ _ _ (Rd.ints2 (by simp) (by go_simp) (by go_simp))).mono ?_)
     rintro e w14 ⟨rfl, hb14⟩; have hX14 := hX12.below (show Below _ _ w14 by (repeat first|exact J0|assumption|(apply J1;assumption)|apply J2|apply J3|apply J4))
     have hb3x : Below wx.heap.size wx w14 := Z08 (show Below w13.heap.size w13 w14 by (repeat first|exact J0|assumption|(apply J1;assumption)|apply J2|apply J3|apply J4)) (Z08 hb13 hb2x)
     clear hnt hfb hO13 hb13 hb14 hX12 fX12 hX11 fX hb12; by_cases hz2 : E2 = 0
     ·have t2 : (E2 != 0) = false := by simp [hz2]
      have HN : Hid (pieE l = pieG (l.take (k + 1)) (l.drop (k + 1))) := by unfold Hid; rw [HK.out, HF.out, if_pos (HA2.out.trans hz2)]
      obtain ⟨w15, hp15, hM15, hc15, hg15, hs15⟩ := HPUT.out w14 hb3x
      try simp only at hp15 hM15
      rw [if_neg hnew] at hM15; have fX14 := hX14.facts
      have hb15 : Below w.heap.size w w15 := Z9f (Z08 hb3x hbx) hc15 (Nat.le_refl _)
      have HTT : Hid ((D.map fun z : Pan => z.1) ++ [nm] = (l.take (k + 1)).map fun z : Pan => z.1) := by unfold Hid; rw [HT.out, List.map_append]; exact congrArg (fun z => (D.map fun z : Pan => z.1) ++ [z]) HNM.out
      unfold sV at hp15; clear hz2 hnew; go_wp2; go_roundw; case rel => exact ⟨k + 1, by omega, by go_num, HN, by rw [← HTT.out]; exact hM15, hb15⟩
      case measure => simp [intOf]; omega
     ·have t2 : (E2 != 0) = true := by simp [hz2]
      have HN : Hid (pieE l = E2) := by unfold Hid; rw [HK.out, HF.out, HA2.out, if_neg hz2]
      clear hz2; go_wp2; go_ret; exact ⟨by rw [HN.out]; rfl, Z08 hb3x hbx⟩
    ·have t0 : (E != 0) = true := by simp [hz]
     have HN : Hid (pieE l = E) := by unfold Hid; rw [HK.out, HF.out, HAB.out, if_neg hz, if_neg hz]
     clear hz; go_wp2; go_ret; exact ⟨by rw [HN.out]; rfl, Z08 hb1x hbx⟩
   ·obtain rfl : k = xs.length := by omega
    have HEE : Hid (pieE l = 0) := by unfold Hid; rw [HK.out, HLN.out, List.drop_length]; rfl
    go_wp2; go_ret; exact ⟨by rw [HEE.out]; rfl, hbw⟩
theorem Zm3 {n : Nat} {l : List Plc} {k : Nat} (hk : k < l.length) : plcG n (l.take k) (l.drop k) = if Zit n (l.take k) l[k] = 0 then plcG n (l.take (k + 1)) (l.drop (k + 1)) else Zit n (l.take k) l[k] := by
 rw [List.drop_eq_getElem_cons hk, plcG, ← List.take_succ_eq_append_getElem hk]
theorem Zm4 (n : Nat) (done : List Plc) (x : Plc) : Zit n done x = Z17 [Z15 (decide (x.1 < 0) || decide ((n : Int) ≤ x.1)) 10, Z15 (memB (done.map fun z : Plc => z.1) x.1) 9, atE_ x.2.2] := by
 unfold Zit
 rw [Zlr]
theorem Zm5 {n : Nat} {done : List Plc} {x : Plc} (h : Zit n done x = 0) : x.1 ∉ done.map fun z : Plc => z.1 := by
 intro hm
 rw [Zm4, Zlq hm] at h
 obtain ⟨_, h⟩ := Zjo h
 obtain ⟨h, _⟩ := Zjo h
 cases h
theorem Zm6 {A : Option Addr} {c : Nat} (l : List Plc) (n : Nat) (w : World) (hr : Rd plc 3 w A l) (hll : l.length ≤ 100000) : Calls Tryz.prog 133 #[.slice A l.length c, .int .i64 n] w (RV w (.int .i64 (plcE n l))) := by
 by_cases h16 : 16 < l.length
 ·have HE : Hid (plcE n l = 5) := by unfold Hid plcE; rw [if_pos h16]
  have t1 : (16 < l.length) = True := eq_true (by omega)
  have t2 : (16 < (l.length : Int)) = True := eq_true (by omega)
  clear h16; go_enter Tryz.func133, Tryz.ntmps133
  go_wp2; go_ret; exact ⟨by rw [HE.out]; rfl, by (repeat first|exact J0|assumption|(apply J1;assumption)|apply J2|apply J3|apply J4)⟩
 ·have HE : Hid (plcE n l = plcG n (l.take 0) (l.drop 0)) := by unfold Hid plcE; rw [if_neg h16]; rfl
  have t1 : (16 < l.length) = False := eq_false (by omega)
  have t2 : (16 < (l.length : Int)) = False := eq_false (by omega)
  have hl16 : l.length ≤ 16 := by omega
  clear h16; have hM0 : Zlp ik (w.alloc (.map #[] 0)) w.heap.size ([] : List Int) := Zlp.new w
  go_enter Tryz.func133, Tryz.ntmps133
  go_wp2; go_loopw [15] (fun s wr => ∃ k : Nat, k ≤ l.length ∧ s = .int .i64 k ∧ Hid (plcE n l = plcG n (l.take k) (l.drop k)) ∧ Zlp ik wr w.heap.size ((l.take k).map fun z : Plc => z.1) ∧ Below w.heap.size w wr) (fun s _ => l.length - (intOf s).toNat)
  case atStart => exact ⟨0, Nat.zero_le _, rfl, HE, by simpa using hM0, Z04 Z03 _⟩
  case round =>
   clear t1 t2 hM0; obtain ⟨k, hk, rfl, HK, hM, hbw⟩ := hrel; obtain ⟨wo, rfl⟩ : ∃ x, x = wr := ⟨_, rfl⟩
   by_cases hlt : k < l.length
   ·have HF := Lib.hid (Zm3 (n := n) hlt)
    have HT := Lib.hid (List.take_succ_eq_append_getElem hlt)
    obtain ⟨b, off, rfl, hb, e0, e1, e2⟩ := (hr.below hbw).plc hlt
    obtain ⟨x, hxe⟩ : ∃ x, l[k] = x := ⟨_, rfl⟩
    rw [hxe] at HF HT e0 e1 e2; obtain ⟨D, hD⟩ : ∃ D, l.take k = D := ⟨_, rfl⟩
    rw [hD] at HK HF HT hM
    have hf3 : ∀ A c' W, Rd ic 1 W A [Z15 (decide (x.1 < 0) || decide ((n : Int) ≤ x.1)) 10, Z15 (memB (D.map fun z : Plc => z.1) x.1) 9, atE_ x.2.2] → Calls Tryz.prog 56 #[.slice A 3 c'] W (RV W (.int .i64 (Zit n D x))) := fun A c' W hr => by
     rw [Zm4]; exact Zjd [Z15 (decide (x.1 < 0) || decide ((n : Int) ≤ x.1)) 10, Z15 (memB (D.map fun z : Plc => z.1) x.1) 9, atE_ x.2.2] A c' W (by simp [maxLen]) hr
    have HNW := Lib.hid (Zm5 (n := n) (done := D) (x := x))
    obtain ⟨wx, hwx⟩ : ∃ X, wo.alloc (.cells (plc x).toArray 100) = X := ⟨_, rfl⟩
    have hbo : Below wo.heap.size wo wx := by rw [← hwx]; exact Z04 Z03 _
    have hM1 := hM.below hbo
    have hlk : ∀ g : Bel wx.heap.size wx, (Instr.lookup 265 (.map (some w.heap.size)) (.int .i64 x.1) false).run Tryz.prog g.val = .ok (.bool (memB (D.map fun z : Plc => z.1) x.1)) g.val := fun g => (hM1.below g.below).lookI x.1
    have hput := fun W (hb : Below wx.heap.size wx W) => (hM1.below hb).put Zll Zlm x.1
    have hca := fun W => Zjg x.2.2 W
    obtain ⟨E, hE⟩ : ∃ E, Zit n D x = E := ⟨_, rfl⟩
    rw [hE] at hf3 HF HNW; obtain ⟨q, hq⟩ : ∃ q, memB (D.map fun z : Plc => z.1) x.1 = q := ⟨_, rfl⟩
    rw [hq] at hf3 hlk; have HPUT := Lib.hid hput
    obtain ⟨n0, n1, n2⟩ := x; simp only at e0 e1 e2 hca hlk hf3 HNW
    obtain ⟨aE, haE⟩ : ∃ q, atE_ n2 = q := ⟨_, rfl⟩
    rw [haE] at hf3 hca; clear hxe hE hq hD hput haE; have hX := Blk.new wo 100 #[.int .i64 n0, .bool n1, .int .i64 n2]
    go_upto_region 7 with fail; have hwx' : wo.alloc (.cells #[.int .i64 n0, .bool n1, .int .i64 n2] 100) = wx := hwx
    obtain ⟨gx, hgx⟩ : ∃ X, wo.heap.size = X := ⟨_, rfl⟩
    have hbx := Z08 hbo hbw
    rw [hwx', hgx] at hX; rw [hwx', hgx]; clear hwx hwx' hgx e0 e1 e2 hb hM hbo; have fX := hX.facts
    have hcase : n0 < 0 ∨ (¬ n0 < 0 ∧ (n : Int) ≤ n0) ∨ (¬ n0 < 0 ∧ ¬ (n : Int) ≤ n0) := by omega
    rcases hcase with hneg | ⟨hneg, hge⟩ | ⟨hneg, hge⟩
    ·have r1 : (n0 < 0) = True := eq_true hneg
     rw [decide_eq_true hneg, Bool.true_or] at hf3; clear hneg; refine Z0z [0, 1, 2, 3, 4, 5, 6, 7, 8, 10, 11, 12, 13, 15, 16] [(9, false), (14, false)] [17, 18, 19, 20] (by kernel_rfl) (by kernel_rfl) (fun d _ _ _ _ h => by cases d <;> exact h) ?_
     simp only [List.map_cons, List.map_nil, List.getD_cons_zero, List.getD_cons_succ]; repeat (go_big_quiet_step (fail))
     refine wpQuiet_nil ?_; refine Z11 rfl (fun K hK => ?_); go_simp; refine (Zjb _ 10 _).mono ?_
     rintro e w8 ⟨rfl, hb8⟩; refine hK _ _ (by (repeat first|exact J0|assumption|(apply J1;assumption)|apply J2|apply J3|apply J4)) ?_
     clear hK K; have hX_w8 := hX.below (show Below _ _ w8 by (repeat first|exact J0|assumption|(apply J1;assumption)|apply J2|apply J3|apply J4))
     have fhX_w8 := hX_w8.facts
     refine Z11 rfl (fun K hK => ?_); go_simp; refine (Zjb _ 9 _).mono ?_
     rintro e w9 ⟨rfl, hb9⟩; refine hK _ _ (by (repeat first|exact J0|assumption|(apply J1;assumption)|apply J2|apply J3|apply J4)) ?_
     clear hK K; have hX_w9 := hX.below (show Below _ _ w9 by (repeat first|exact J0|assumption|(apply J1;assumption)|apply J2|apply J3|apply J4))
     have fhX_w9 := hX_w9.facts
     refine Z10 ?_; clear hlk r1; go_wp2_with fail; refine (hca _).mono ?_
     rintro e w10 ⟨rfl, hb10⟩; go_wp2_with fail; go_must (refine (hf3 _ _ _ (Rd.ints3 (by simp) (by go_simp) (by go_simp) (by go_simp))).mono ?_)
     rintro e w11 ⟨rfl, hb11⟩; have hX11 := hX.below (show Below _ _ w11 by (repeat first|exact J0|assumption|(apply J1;assumption)|apply J2|apply J3|apply J4))
     have hbx11 : Below wx.heap.size wx w11 := by (repeat first|exact J0|assumption|(apply J1;assumption)|apply J2|apply J3|apply J4)
     by_cases hz : E = 0
     ·have t0 : (E != 0) = false := by simp [hz]
      have HN : Hid (plcE n l = plcG n (l.take (k + 1)) (l.drop (k + 1))) := by unfold Hid; rw [HK.out, HF.out, if_pos hz]
      have hnew := HNW.out hz
      obtain ⟨w12, hp12, hM12, hc12, hg12, hs12⟩ := HPUT.out w11 hbx11
      try simp only at hp12 hM12
      rw [if_neg hnew] at hM12; have fX11 := hX11.facts
      have hb12 : Below w.heap.size w w12 := Z9f (Z08 hbx11 hbx) hc12 (Nat.le_refl _)
      have HTT : Hid ((D.map fun z : Plc => z.1) ++ [n0] = (l.take (k + 1)).map fun z : Plc => z.1) := by unfold Hid; rw [HT.out]; simp
      unfold ik at hp12; clear hz hnew hca hf3; go_wp2; go_roundw; case rel => exact ⟨k + 1, by omega, by go_num, HN, by rw [← HTT.out]; exact hM12, hb12⟩
      case measure => simp [intOf]; omega
     ·have t0 : (E != 0) = true := by simp [hz]
      have HN : Hid (plcE n l = E) := by unfold Hid; rw [HK.out, HF.out, if_neg hz]
      clear hz hca hf3; go_wp2; go_ret; exact ⟨by rw [HN.out]; rfl, by exact Z08 hbx11 hbx⟩
    ·have r1 : (n0 < 0) = False := eq_false hneg
     have r2 : ((n : Int) ≤ n0) = True := eq_true hge
     rw [decide_eq_true hge, Bool.or_true] at hf3; clear hneg hge; refine Z0z [0, 1, 2, 3, 4, 5, 6, 7, 8, 10, 11, 12, 13, 15, 16] [(9, false), (14, false)] [17, 18, 19, 20] (by kernel_rfl) (by kernel_rfl) (fun d _ _ _ _ h => by cases d <;> exact h) ?_
     simp only [List.map_cons, List.map_nil, List.getD_cons_zero, List.getD_cons_succ]; repeat (go_big_quiet_step (fail))
     refine wpQuiet_nil ?_; refine Z11 rfl (fun K hK => ?_); go_simp; refine (Zjb _ 10 _).mono ?_
     rintro e w8 ⟨rfl, hb8⟩; refine hK _ _ (by (repeat first|exact J0|assumption|(apply J1;assumption)|apply J2|apply J3|apply J4)) ?_
     clear hK K; have hX_w8 := hX.below (show Below _ _ w8 by (repeat first|exact J0|assumption|(apply J1;assumption)|apply J2|apply J3|apply J4))
     have fhX_w8 := hX_w8.facts
     refine Z11 rfl (fun K hK => ?_); go_simp; refine (Zjb _ 9 _).mono ?_
     rintro e w9 ⟨rfl, hb9⟩; refine hK _ _ (by (repeat first|exact J0|assumption|(apply J1;assumption)|apply J2|apply J3|apply J4)) ?_
     clear hK K; have hX_w9 := hX.below (show Below _ _ w9 by (repeat first|exact J0|assumption|(apply J1;assumption)|apply J2|apply J3|apply J4))
     have fhX_w9 := hX_w9.facts
     refine Z10 ?_; clear hlk r1; go_wp2_with fail; refine (hca _).mono ?_
     rintro e w10 ⟨rfl, hb10⟩; go_wp2_with fail; go_must (refine (hf3 _ _ _ (Rd.ints3 (by simp) (by go_simp) (by go_simp) (by go_simp))).mono ?_)
     rintro e w11 ⟨rfl, hb11⟩; have hX11 := hX.below (show Below _ _ w11 by (repeat first|exact J0|assumption|(apply J1;assumption)|apply J2|apply J3|apply J4))
     have hbx11 : Below wx.heap.size wx w11 := by (repeat first|exact J0|assumption|(apply J1;assumption)|apply J2|apply J3|apply J4)
     by_cases hz : E = 0
     ·have t0 : (E != 0) = false := by simp [hz]
      have HN : Hid (plcE n l = plcG n (l.take (k + 1)) (l.drop (k + 1))) := by unfold Hid; rw [HK.out, HF.out, if_pos hz]
      have hnew := HNW.out hz
      obtain ⟨w12, hp12, hM12, hc12, hg12, hs12⟩ := HPUT.out w11 hbx11
      try simp only at hp12 hM12
      rw [if_neg hnew] at hM12; have fX11 := hX11.facts
      have hb12 : Below w.heap.size w w12 := Z9f (Z08 hbx11 hbx) hc12 (Nat.le_refl _)
      have HTT : Hid ((D.map fun z : Plc => z.1) ++ [n0] = (l.take (k + 1)).map fun z : Plc => z.1) := by unfold Hid; rw [HT.out]; simp
      unfold ik at hp12; clear hz hnew hca hf3; go_wp2; go_roundw; case rel => exact ⟨k + 1, by omega, by go_num, HN, by rw [← HTT.out]; exact hM12, hb12⟩
      case measure => simp [intOf]; omega
     ·have t0 : (E != 0) = true := by simp [hz]
      have HN : Hid (plcE n l = E) := by unfold Hid; rw [HK.out, HF.out, if_neg hz]
      clear hz hca hf3; go_wp2; go_ret; exact ⟨by rw [HN.out]; rfl, by exact Z08 hbx11 hbx⟩
    ·have r1 : (n0 < 0) = False := eq_false hneg
     have r2 : ((n : Int) ≤ n0) = False := eq_false hge
     rw [decide_eq_false hneg, decide_eq_false hge, Bool.or_false] at hf3; clear hneg hge; refine Z0z [0, 1, 2, 3, 4, 5, 6, 7, 8, 10, 11, 12, 13, 15, 16] [(9, false), (14, false)] [17, 18, 19, 20] (by kernel_rfl) (by kernel_rfl) (fun d _ _ _ _ h => by cases d <;> exact h) ?_
     simp only [List.map_cons, List.map_nil, List.getD_cons_zero, List.getD_cons_succ]; repeat (go_big_quiet_step (fail))
     refine wpQuiet_nil ?_; refine Z11 rfl (fun K hK => ?_); go_simp; refine (Zjb _ 10 _).mono ?_
     rintro e w8 ⟨rfl, hb8⟩; refine hK _ _ (by (repeat first|exact J0|assumption|(apply J1;assumption)|apply J2|apply J3|apply J4)) ?_
     clear hK K; have hX_w8 := hX.below (show Below _ _ w8 by (repeat first|exact J0|assumption|(apply J1;assumption)|apply J2|apply J3|apply J4))
     have fhX_w8 := hX_w8.facts
     refine Z11 rfl (fun K hK => ?_); go_simp; refine (Zjb _ 9 _).mono ?_
     rintro e w9 ⟨rfl, hb9⟩; refine hK _ _ (by (repeat first|exact J0|assumption|(apply J1;assumption)|apply J2|apply J3|apply J4)) ?_
     clear hK K; have hX_w9 := hX.below (show Below _ _ w9 by (repeat first|exact J0|assumption|(apply J1;assumption)|apply J2|apply J3|apply J4))
     have fhX_w9 := hX_w9.facts
     refine Z10 ?_; clear hlk r1; go_wp2_with fail; refine (hca _).mono ?_
     rintro e w10 ⟨rfl, hb10⟩; go_wp2_with fail; go_must (refine (hf3 _ _ _ (Rd.ints3 (by simp) (by go_simp) (by go_simp) (by go_simp))).mono ?_)
     rintro e w11 ⟨rfl, hb11⟩; have hX11 := hX.below (show Below _ _ w11 by (repeat first|exact J0|assumption|(apply J1;assumption)|apply J2|apply J3|apply J4))
     have hbx11 : Below wx.heap.size wx w11 := by (repeat first|exact J0|assumption|(apply J1;assumption)|apply J2|apply J3|apply J4)
     by_cases hz : E = 0
     ·have t0 : (E != 0) = false := by simp [hz]
      have HN : Hid (plcE n l = plcG n (l.take (k + 1)) (l.drop (k + 1))) := by unfold Hid; rw [HK.out, HF.out, if_pos hz]
      have hnew := HNW.out hz
      obtain ⟨w12, hp12, hM12, hc12, hg12, hs12⟩ := HPUT.out w11 hbx11
      try simp only at hp12 hM12
      rw [if_neg hnew] at hM12; have fX11 := hX11.facts
      have hb12 : Below w.heap.size w w12 := Z9f (Z08 hbx11 hbx) hc12 (Nat.le_refl _)
      have HTT : Hid ((D.map fun z : Plc => z.1) ++ [n0] = (l.take (k + 1)).map fun z : Plc => z.1) := by unfold Hid; rw [HT.out]; simp
      unfold ik at hp12; clear hz hnew hca hf3; go_wp2; go_roundw; case rel => exact ⟨k + 1, by omega, by go_num, HN, by rw [← HTT.out]; exact hM12, hb12⟩
      case measure => simp [intOf]; omega
     ·have t0 : (E != 0) = true := by simp [hz]
      have HN : Hid (plcE n l = E) := by unfold Hid; rw [HK.out, HF.out, if_neg hz]
      clear hz hca hf3; go_wp2; go_ret; exact ⟨by rw [HN.out]; rfl, by exact Z08 hbx11 hbx⟩
   ·obtain rfl : k = l.length := by omega
    have HEE : Hid (plcE n l = 0) := by unfold Hid; rw [HK.out, List.drop_length]; rfl
    go_wp2; go_ret; exact ⟨by rw [HEE.out]; rfl, hbw⟩
theorem Zm7 {v u : Value} (l : List Pan) (plan : List Plc) (w : World) (h : SlP w v l) (hp : SlL w u plan) (hnm : ∀ p ∈ l, p.1.length ≤ 1000000) (hll : l.length ≤ 100000) (hpl : plan.length ≤ 100000) :
  Calls Tryz.prog 70 #[v, u] w (RV w (.int .i64 (if pieE l = 0 then plcE l.length plan else pieE l))) := by
 have hc := fun W (hb : Below w.heap.size w W) => Zm2 l W (h.below hb) hnm hll
 obtain ⟨xs, ⟨A, c, rfl, _, _, _⟩, hx⟩ := h
 obtain ⟨B, d, rfl, _, _, hr⟩ := hp
 have HLN := Lib.hid hx.len
 have hcp := fun W (hb : Below w.heap.size w W) => Zm6 (A := B) (c := d) plan l.length W (hr.below hb) hpl
 rw [← HLN.out] at hcp
 obtain ⟨E2, hE2⟩ : ∃ E, plcE xs.length plan = E := ⟨_, rfl⟩
 rw [hE2] at hcp
 rw [← HLN.out, hE2]
 obtain ⟨E, hE⟩ : ∃ E, pieE l = E := ⟨_, rfl⟩
 rw [hE] at hc ⊢
 clear hE hE2
 by_cases hz : E = 0
 ·have t0 : (E != 0) = false := by simp [hz]
  rw [if_pos hz]; clear hz; go_enter Tryz.func70, Tryz.ntmps70
  go_wp2_with fail; refine (hc _ (by (repeat first|exact J0|assumption|(apply J1;assumption)|apply J2|apply J3|apply J4))).mono ?_
  rintro e w2 ⟨rfl, hb2⟩; go_wp2_with fail; refine (hcp _ (by (repeat first|exact J0|assumption|(apply J1;assumption)|apply J2|apply J3|apply J4))).mono ?_
  rintro e w3 ⟨rfl, hb3⟩; go_wp2; go_ret; exact ⟨rfl, by (repeat first|exact J0|assumption|(apply J1;assumption)|apply J2|apply J3|apply J4)⟩
 ·have t0 : (E != 0) = true := by simp [hz]
  rw [if_neg hz]; clear hz; go_enter Tryz.func70, Tryz.ntmps70
  go_wp2_with fail; refine (hc _ (by (repeat first|exact J0|assumption|(apply J1;assumption)|apply J2|apply J3|apply J4))).mono ?_
  rintro e w2 ⟨rfl, hb2⟩; go_wp2; go_ret; exact ⟨rfl, by (repeat first|exact J0|assumption|(apply J1;assumption)|apply J2|apply J3|apply J4)⟩
end Go.Proofs.YtpcgeihemkhkjaaGreatDoor
