/- The reference's plain forms, walked. Conditions: none. -/
import Derived.Test.YthkjgcldolnjaaaGreatDoorI43
import Derived.Test.YthkjgcldolnjaaaGreatDoorI23
import Derived.Test.YthkjgcldolnjaaaGreatDoorI38
namespace Go.Proofs.YthkjgcldolnjaaaGreatDoor
open Go.RowKit Go.ChangeMaps
set_option maxHeartbeats 4000000
set_option maxRecDepth 100000

attribute [local go_sem] Oper.semAt_some
theorem refO_len (l : List Stp) : (refO (plF l)).length ≤ l.length := by
  have h : ∀ (l : List Stp) (s : PlS), PlOk s → (refO (l.foldl plS s)).length ≤ (refO s).length + l.length := by
    intro l
    induction l with
    | nil => intro s _; exact Nat.le_refl _
    | cons x r ih =>
      intro s hs
      have h1 := ih (plS s x) (plS_ok hs x).1
      have h2 : (refO (plS s x)).length ≤ (refO s).length + 1 := by
        by_cases hc : cutS s x = true
        · rw [plR_cut hs hc, refO_put _ (by simp)]
          simp
        · have hc : cutS s x = false := by simpa using hc
          have h3 : s.1.length ≤ (refO s).length := by unfold refO; split <;> simp
          rw [plR_on hs hc, refO_put _ (by simp), List.length_append]
          simp only [List.length_cons, List.length_nil]
          omega
      rw [List.foldl_cons, List.length_cons]
      omega
  have := h l ([], [], 0) ⟨.inl rfl, by simp⟩
  have e : refO ([], [], 0) = [] := rfl
  rw [e] at this
  unfold plF
  simpa using this
theorem one_byte (w : World) (c : UInt8) : Rd yc 1 (w.alloc (.cells #[.int .u8 c.toNat] 5)) (some ⟨w.heap.size, 0, none⟩) [c] := by
  have hu := Sl.oneG (enc := yc) (sz := 1) w 5 c #[.int .u8 c.toNat] rfl
  obtain ⟨A, d, e, _, _, hr⟩ := hu
  obtain ⟨rfl, _⟩ : some (⟨w.heap.size, 0, none⟩ : Addr) = A ∧ 1 = d := by simpa using e
  exact hr
/-! # The reference's plain forms -/
theorem rplain_any {v : Value} (l : List Stp) (w : World) (h : SlS w v l) (hl : l.length ≤ 1000) :
    Calls Tryz.prog 72 #[v] w (RG ec 3 60 w (plnL l)) := by
  obtain ⟨A, c, rfl, _, _, hr⟩ := h
  have HOK := Lib.hid (fun k => plF_ok (l.take k))
  have HW := Lib.hid (fun (k : Nat) (h0 : 0 < k) (h1 : k ≤ l.length) => plF_word (l := l.take k) (by intro e; have := congrArg List.length e; rw [List.length_take, List.length_nil] at this; omega))
  have HT := Lib.hid (fun k (hk : k < l.length) => (show plF (l.take (k + 1)) = plS (plF (l.take k)) l[k] by rw [List.take_succ_eq_append_getElem hk, plF_snoc]))
  have HE : Hid (refO (plF (l.take l.length)) = plnL l) := by unfold Hid; rw [List.take_length, refO_end]
  have HL := Lib.hid (fun k => refO_len (l.take k))
  have H0 : Hid (plF (l.take 0) = ([], [], 0)) := rfl
  go_enter Tryz.func72, Tryz.ntmps72
  go_wp2
  go_loopw [3, 4, 5] (fun s3 s4 s5 wr => ∃ k : Nat, k ≤ l.length ∧ s5 = .int .i64 k ∧ s4 = .int .i64 (plF (l.take k)).2.2 ∧ Own ec 3 w.heap.size 60 wr s3 (refO (plF (l.take k))) ∧ Below w.heap.size w wr) (fun _ _ s _ => l.length - (intOf s).toNat)
  case atStart => exact ⟨0, Nat.zero_le _, rfl, rfl, Own.nil_, by (repeat (first | exact bl_refl | assumption | (apply bl_then; assumption) | refine bl_alloc ?_ _ | refine bl_drew ?_ | refine bl_drewN ?_ _))⟩
  case round =>
    obtain ⟨k, hk, rfl, rfl, hO, hbk⟩ := hrel
    obtain ⟨wo, rfl⟩ : ∃ x, x = wr := ⟨_, rfl⟩
    by_cases hlt : k < l.length
    · obtain ⟨b, off, rfl, hb, e0, e1⟩ := (hr.below hbk).stp hlt
      have hT := HT.out k hlt
      have hW := HW.out k
      have hOK := HOK.out k
      have hLn := HL.out k
      rw [List.length_take] at hLn
      have h0 : k = 0 → plF (l.take k) = ([], [], 0) := fun e => by subst e; exact H0.out
      obtain ⟨⟨c, o⟩, hx⟩ : ∃ z, l[k] = z := ⟨_, rfl⟩
      rw [hx] at e0 e1 hT
      simp only at e0 e1
      obtain ⟨⟨E, wd, y⟩, hs⟩ : ∃ z, plF (l.take k) = z := ⟨_, rfl⟩
      rw [hs] at hT hW hOK hLn h0 hO
      rw [hs]
      obtain ⟨own, hown⟩ : ∃ z, ownW (c, o) = z := ⟨_, rfl⟩
      have howr := ownW_range (c, o)
      rw [hown] at howr
      have HOWN := Lib.hid hown
      have HX := Lib.hid hx
      have HTT := Lib.hid hT
      have hyr := hOK.way
      have hwl := hOK.len
      simp only at hyr hwl hW hO
      have hcl : (c.toNat : Int) ≤ 255 := by have := c.toNat_lt; omega
      clear hx hs hown hT
      simp only
      go_upto_if 19 with fail
      go_cut [6] from 14 to 24 (fun s6 wx => s6 = .int .i64 own ∧ wx = wo)
      case first =>
        by_cases hc : c = 78
        · have tc : ((c.toNat : Int) != 78) = false := by rw [hc]; rfl
          have hz : own = 0 := by have := HOWN.out; unfold ownW at this; rw [if_pos hc] at this; exact this.symm
          go_wp2
          go_meet
          case rel => exact ⟨by rw [hz], rfl⟩
        · have tc : ((c.toNat : Int) != 78) = true := by
            rw [bne_iff_ne]
            intro e
            exact hc (UInt8.toNat_inj.1 (by rw [show (78 : UInt8).toNat = 78 from rfl]; omega))
          cases o
          · have hz : own = -1 := by have := HOWN.out; unfold ownW at this; rw [if_neg hc] at this; exact this.symm
            go_wp2
            go_meet
            case rel => exact ⟨by rw [hz], rfl⟩
          · have hz : own = 1 := by have := HOWN.out; unfold ownW at this; rw [if_neg hc] at this; exact this.symm
            go_wp2
            go_meet
            case rel => exact ⟨by rw [hz], rfl⟩
      case rest =>
        obtain ⟨rfl, hwc⟩ := hcut
        subst hwc
        obtain ⟨wp, rfl⟩ : ∃ x, x = wc := ⟨_, rfl⟩
        obtain ⟨A3, c3, rfl⟩ := hO.shape
        obtain ⟨n, hn⟩ : ∃ n, (refO (E, wd, y)).length = n := ⟨_, rfl⟩
        rw [hn]
        obtain ⟨CB, hCB⟩ : ∃ q : Bool, (decide (k = 0) || cutS (E, wd, y) (c, o)) = q := ⟨_, rfl⟩
        have HCB := Lib.hid hCB
        have HC : Hid (cutS (E, wd, y) (c, o) = (decide (wd.length = 64) || decide (own * y < 0))) := by unfold Hid cutS; rw [← HOWN.out]
        have HTR : Hid (CB = true → plS (E, wd, y) (c, o) = (refO (E, wd, y), [c], own)) := fun hq => by
          rw [← HCB.out, Bool.or_eq_true] at hq
          by_cases hcu : cutS (E, wd, y) (c, o) = true
          · rw [plR_cut hOK hcu, ← HOWN.out]
          · have hz := h0 (of_decide_eq_true (hq.resolve_right hcu))
            have hcu : cutS (E, wd, y) (c, o) = false := by simpa using hcu
            rw [plR_on hOK hcu, ← HOWN.out]
            obtain ⟨rfl, rfl, rfl⟩ : E = [] ∧ wd = [] ∧ y = 0 := by simpa using hz
            rfl
        have HFA : Hid (CB = false → 0 < k ∧ plS (E, wd, y) (c, o) = (E, wd ++ [c], if y = 0 then own else y)) := fun hq => by
          rw [← HCB.out, Bool.or_eq_false_iff] at hq
          refine ⟨?_, by rw [plR_on hOK hq.2, ← HOWN.out]⟩
          have := of_decide_eq_false hq.1
          omega
        have HOUT : Hid (0 < k → n = E.length + 1 ∧ refO (E, wd, y) = E ++ [(wd, 1, decide (y = 1))]) := fun hq => by
          have href : refO (E, wd, y) = E ++ [(wd, 1, decide (y = 1))] := refO_put E (hW hq (by omega)) y
          exact ⟨by rw [← hn, href]; simp, href⟩
        clear hCB
        obtain ⟨z, hz⟩ : ∃ z : Int, (n : Int) - 1 = z := ⟨_, rfl⟩
        have HZ := Lib.hid hz
        clear hz
        go_upto_region 12 with fail
        go_cut [7, 51] from 25 to 51 (fun s7 s51 wx => s7 = .int .i64 z ∧ s51 = .bool CB ∧ wx = wp)
        case first =>
          have HCB2 : Hid (CB = (decide (k = 0) || (decide (wd.length = 64) || decide (own * y < 0)))) := by unfold Hid; rw [← HCB.out, HC.out]
          clear HTR HFA HCB HC
          by_cases hk0 : k = 0
          · have hcb : CB = true := by rw [HCB2.out, decide_eq_true hk0]; rfl
            subst hk0
            clear HCB2 h0 hW hOK hn HOUT
            go_wp2_with fail
            go_meet
            case rel => exact ⟨congrArg (Value.int .i64) (by have := HZ.out; omega), by rw [hcb], rfl⟩
          · have tk : ((k : Int) == 0) = false := beq_false_of_ne (by omega)
            obtain ⟨hn1, href⟩ := HOUT.out (by omega)
            have hrE : (refO (E, wd, y))[E.length]? = some (wd, 1, decide (y = 1)) := by rw [href]; simp
            obtain ⟨_, _, he3, _, _, hr3⟩ := hO.rd ec_len
            obtain ⟨rfl, rfl⟩ : A3 = _ ∧ c3 = _ := by simpa using he3
            obtain ⟨hEl, hEg⟩ := List.getElem?_eq_some_iff.1 hrE
            obtain ⟨b3, off3, hA3, hb3, p0, p1, p2⟩ := hr3.edge hEl
            rw [hEg] at p0 p1 p2
            simp only at p0 p1 p2
            subst hA3
            have en : ((n : Nat) : Int) - 1 = (E.length : Int) := by omega
            have hEn : E.length < n := by omega
            have hEl2 : E.length ≤ 1000 := by omega
            have hK : decide (k = 0) = false := decide_eq_false hk0
            rw [hK, Bool.false_or] at HCB2
            clear hK hk0 hrE hEl hEg href hn1 h0 hW hOK hn HOUT he3
            by_cases h64 : wd.length = 64
            · have t64 : ((wd.length : Int) == 64) = true := by rw [h64]; rfl
              have hcb : CB = true := by rw [HCB2.out, decide_eq_true h64]; rfl
              clear HCB2 h64
              go_wp2_with fail
              go_meet
              case rel => exact ⟨congrArg (Value.int .i64) (by have := HZ.out; omega), by rw [hcb], rfl⟩
            · have t64 : ((wd.length : Int) == 64) = false := beq_false_of_ne (by omega)
              rw [decide_eq_false h64, Bool.false_or] at HCB2
              clear h64
              rcases howr with rfl | rfl | rfl <;> rcases hyr with rfl | rfl | rfl
              all_goals
                have hcb := HCB2.out
                simp only [Int.reduceMul, Int.reduceNeg, Int.reduceLT, decide_true, decide_false] at hcb
                clear HCB2
                go_wp2_with fail
                go_meet
                case rel => exact ⟨congrArg (Value.int .i64) (by have := HZ.out; omega), by rw [hcb], rfl⟩
        case rest =>
          obtain ⟨rfl, rfl, hwc⟩ := hcut
          subst hwc
          have hz := HZ.out
          obtain ⟨wq, rfl⟩ : ∃ x, x = wc := ⟨_, rfl⟩
          have hsz := hbk.size
          cases CB
          · obtain ⟨hkp, HP⟩ := HFA.out rfl
            obtain ⟨hn1, href⟩ := HOUT.out hkp
            rw [href] at hO
            have en : z = (E.length : Int) := by omega
            have hbk3 := hbk
            obtain ⟨E', hE'⟩ : ∃ z, E = z := ⟨_, rfl⟩
            obtain ⟨wd', hwd'⟩ : ∃ z, wd = z := ⟨_, rfl⟩
            obtain ⟨q, hq⟩ : ∃ z, decide (y = 1) = z := ⟨_, rfl⟩
            have HP' : Hid (plS (E, wd, y) (c, o) = (E', wd' ++ [c], if y = 0 then own else y)) := by unfold Hid; rw [HP, hE', hwd']
            rw [hq, hE', hwd'] at hO
            rw [hE'] at en
            have hEl : E'.length ≤ 1000 := by omega
            have hwl3 : wd'.length ≤ 64 := by rw [← hwd']; exact hwl
            have hn2 : n = E'.length + 1 := by omega
            clear HFA HTR HC HOUT HP href hq hE' hwd' hn h0 hW hOK howr hyr hkp hn1
            obtain ⟨wx, rfl⟩ : ∃ x, x = wq := ⟨_, rfl⟩
            have hO3 := hO
            rw [hn2, en]
            clear hO en hz
            obtain ⟨L, hL⟩ : ∃ L, E' ++ [(wd', 1, q)] = L := ⟨_, rfl⟩
            have hLl : L.length = E'.length + 1 := by rw [← hL]; simp
            have hmg : L[E'.length]? = some (wd', 1, q) := by rw [← hL]; simp
            have HLS : Hid (∀ z : Edg, L.set E'.length z = E' ++ [z]) := fun z => by rw [← hL, List.set_append_right _ _ (Nat.le_refl _)]; simp
            rw [show (E' ++ [((wd', 1, q) : Edg)]).length = E'.length + 1 by simp] at hO3
            rw [hL] at hO3
            clear hL
            obtain ⟨g, rfl⟩ : ∃ g, A3 = some ⟨g, 0, none⟩ := by
              rcases hO3.2 with ⟨_, hn⟩ | ⟨g, cap, cur, hv, _⟩
              · omega
              · exact ⟨g, (Value.slice.inj hv).1⟩
            obtain ⟨_, hgw, tail, hB, hback⟩ := own_rowT ec_len hO3
            have HBK := Lib.hid hback
            have c0 := rowT_get ec_len tail hmg (j := 0) (by decide)
            have d0 : wx.cell? ⟨g, E'.length * 3, none⟩ = some (sV wd') := by have := hB.cell (E'.length * 3 + 0); rw [c0] at this; exact this
            have c2 := rowT_get ec_len tail hmg (j := 2) (by decide)
            have d2 : wx.cell? ⟨g, E'.length * 3 + 2, none⟩ = some (.bool q) := by rw [hB.cell, c2]; rfl
            unfold sV at d0
            obtain ⟨b', off', hA', hb', f0, f1⟩ := (hr.below hbk3).stp hlt
            obtain ⟨rfl, rfl⟩ : b = b' ∧ off = off' := by simpa using hA'
            rw [HX.out] at f0
            clear hA' f1 e0 e1 c0 c2 hback
            have fB := hB.facts
            have hEn : E'.length < E'.length + 1 := by omega
            by_cases hy0 : y = 0
            · have ty : (y == 0) = true := by simpa using hy0
              have HPY : Hid (plS (E, wd, y) (c, o) = (E', wd' ++ [c], own)) := by unfold Hid; rw [HP'.out, if_pos hy0]
              go_upto_region 18 with fail
              have hcv : (convert 153 9 (.slice (some ⟨wx.heap.size, 0, none⟩) 1 1)).run Tryz.prog (wx.alloc (.cells #[.int .u8 c.toNat] 5)).drew = .ok (.string ⟨#[c]⟩) (wx.alloc (.cells #[.int .u8 c.toNat] 5)).drew := bytes_back _ wx.heap.size 1 [c] (one_byte wx c).drew
              have happ := app_str wd' c
              obtain ⟨Bs, hBs⟩ : ∃ B : ByteArray, ({ data := (wd' ++ [c]).toArray } : ByteArray) = B := ⟨_, rfl⟩
              rw [hBs] at happ
              have HSV : Hid (sV (wd' ++ [c]) = .string Bs) := by unfold Hid sV; rw [hBs]
              have hsz : ({ data := wd'.toArray } : ByteArray).size = wd'.length := rfl
              have hlim : (9223372036854775807 < wd'.length + 1) = False := eq_false (by omega)
              have hs1 : ({ data := #[c] } : ByteArray).size = 1 := rfl
              clear hBs
              have r0 := rowT_set ec_len tail (j := 0) (u := .string Bs) (wd' ++ [c], 1, q) hmg (by decide) (by rw [← HSV.out]; rfl)
              have hm1 : (L.set E'.length ((wd' ++ [c], 1, q) : Edg))[E'.length]? = some ((wd' ++ [c], 1, q) : Edg) := List.getElem?_set_self (by omega)
              have r2 := rowT_set ec_len tail (j := 2) (u := .bool (own == 1)) (wd' ++ [c], 1, (own == 1)) hm1 (by decide) rfl
              simp only [Nat.add_zero] at r0
              have hS0 := (hB.set_ (E'.length * 3) (.string Bs)).set_ (E'.length * 3 + 2) (.bool (own == 1))
              rw [r0, r2, List.set_set, HLS.out] at hS0
              have hS := (hS0.alloc (.cells #[.int .u8 c.toNat] 5)).drew
              have hOS := HBK.out _ _ (by simp; omega) hS
              have hbS := bl_drew (bl_alloc (bl_set (bl_set hbk3 hgw (.string Bs) (p := ⟨g, E'.length * 3, none⟩)) hgw (.bool (own == 1)) (p := ⟨g, E'.length * 3 + 2, none⟩)) (.cells #[.int .u8 c.toNat] 5))
              have HF : Hid (plF (l.take (k + 1)) = (E', wd' ++ [c], own)) := by unfold Hid; rw [HTT.out, HPY.out]
              have HR : Hid (refO (plF (l.take (k + 1))) = E' ++ [(wd' ++ [c], 1, (own == 1))]) := by unfold Hid; rw [HF.out, refO_put _ (by simp)]; rfl
              clear r0 r2 hm1 hmg hS hS0
              refine wp_region_ords [0, 1, 2, 3, 4, 5, 6, 7, 8, 9, 10, 11] [(12, false), (13, false), (14, false)] [15, 16, 17] (by kernel_rfl) (by kernel_rfl) (fun d _ _ _ _ h => by cases d <;> exact h) ?_
              simp only [List.map_cons, List.map_nil, List.getD_cons_zero, List.getD_cons_succ]
              repeat (go_big_quiet_step (fail))
              refine wpQuiet_nil ?_
              refine wpMid_run rfl (fun K hK => ?_)
              go_simp
              refine hK _ _ (by (repeat (first | exact bl_refl | assumption | (apply bl_then; assumption) | refine bl_alloc ?_ _ | refine bl_drew ?_ | refine bl_drewN ?_ _))) ?_
              clear hK K
              refine wpMid_run rfl (fun K hK => ?_)
              go_simp
              refine hK _ _ (by (repeat (first | exact bl_refl | assumption | (apply bl_then; assumption) | refine bl_alloc ?_ _ | refine bl_drew ?_ | refine bl_drewN ?_ _))) ?_
              clear hK K
              refine wpMid_run rfl (fun K hK => ?_)
              go_simp
              refine hK _ _ (by (repeat (first | exact bl_refl | assumption | (apply bl_then; assumption) | refine bl_alloc ?_ _ | refine bl_drew ?_ | refine bl_drewN ?_ _))) ?_
              clear hK K
              refine wpMid_nil ?_
              go_wp2
              go_roundw
              case rel => exact ⟨k + 1, by omega, by go_num, by rw [HF.out], by rw [HR.out]; exact hOS, hbS⟩
              case measure => simp [intOf]; omega
            · have ty : (y == 0) = false := beq_false_of_ne hy0
              have HPY : Hid (plS (E, wd, y) (c, o) = (E', wd' ++ [c], y)) := by unfold Hid; rw [HP'.out, if_neg hy0]
              go_upto_region 18 with fail
              have hcv : (convert 153 9 (.slice (some ⟨wx.heap.size, 0, none⟩) 1 1)).run Tryz.prog (wx.alloc (.cells #[.int .u8 c.toNat] 5)).drew = .ok (.string ⟨#[c]⟩) (wx.alloc (.cells #[.int .u8 c.toNat] 5)).drew := bytes_back _ wx.heap.size 1 [c] (one_byte wx c).drew
              have happ := app_str wd' c
              obtain ⟨Bs, hBs⟩ : ∃ B : ByteArray, ({ data := (wd' ++ [c]).toArray } : ByteArray) = B := ⟨_, rfl⟩
              rw [hBs] at happ
              have HSV : Hid (sV (wd' ++ [c]) = .string Bs) := by unfold Hid sV; rw [hBs]
              have hsz : ({ data := wd'.toArray } : ByteArray).size = wd'.length := rfl
              have hlim : (9223372036854775807 < wd'.length + 1) = False := eq_false (by omega)
              have hs1 : ({ data := #[c] } : ByteArray).size = 1 := rfl
              clear hBs
              have r0 := rowT_set ec_len tail (j := 0) (u := .string Bs) (wd' ++ [c], 1, q) hmg (by decide) (by rw [← HSV.out]; rfl)
              have hm1 : (L.set E'.length ((wd' ++ [c], 1, q) : Edg))[E'.length]? = some ((wd' ++ [c], 1, q) : Edg) := List.getElem?_set_self (by omega)
              have r2 := rowT_set ec_len tail (j := 2) (u := .bool (y == 1)) (wd' ++ [c], 1, (y == 1)) hm1 (by decide) rfl
              simp only [Nat.add_zero] at r0
              have hS0 := (hB.set_ (E'.length * 3) (.string Bs)).set_ (E'.length * 3 + 2) (.bool (y == 1))
              rw [r0, r2, List.set_set, HLS.out] at hS0
              have hS := (hS0.alloc (.cells #[.int .u8 c.toNat] 5)).drew
              have hOS := HBK.out _ _ (by simp; omega) hS
              have hbS := bl_drew (bl_alloc (bl_set (bl_set hbk3 hgw (.string Bs) (p := ⟨g, E'.length * 3, none⟩)) hgw (.bool (y == 1)) (p := ⟨g, E'.length * 3 + 2, none⟩)) (.cells #[.int .u8 c.toNat] 5))
              have HF : Hid (plF (l.take (k + 1)) = (E', wd' ++ [c], y)) := by unfold Hid; rw [HTT.out, HPY.out]
              have HR : Hid (refO (plF (l.take (k + 1))) = E' ++ [(wd' ++ [c], 1, (y == 1))]) := by unfold Hid; rw [HF.out, refO_put _ (by simp)]; rfl
              clear r0 r2 hm1 hmg hS hS0
              refine wp_region_ords [0, 1, 2, 3, 4, 5, 6, 7, 8, 9, 10, 11] [(12, false), (13, false), (14, false)] [15, 16, 17] (by kernel_rfl) (by kernel_rfl) (fun d _ _ _ _ h => by cases d <;> exact h) ?_
              simp only [List.map_cons, List.map_nil, List.getD_cons_zero, List.getD_cons_succ]
              repeat (go_big_quiet_step (fail))
              refine wpQuiet_nil ?_
              refine wpMid_run rfl (fun K hK => ?_)
              go_simp
              refine hK _ _ (by (repeat (first | exact bl_refl | assumption | (apply bl_then; assumption) | refine bl_alloc ?_ _ | refine bl_drew ?_ | refine bl_drewN ?_ _))) ?_
              clear hK K
              refine wpMid_run rfl (fun K hK => ?_)
              go_simp
              refine hK _ _ (by (repeat (first | exact bl_refl | assumption | (apply bl_then; assumption) | refine bl_alloc ?_ _ | refine bl_drew ?_ | refine bl_drewN ?_ _))) ?_
              clear hK K
              refine wpMid_run rfl (fun K hK => ?_)
              go_simp
              refine hK _ _ (by (repeat (first | exact bl_refl | assumption | (apply bl_then; assumption) | refine bl_alloc ?_ _ | refine bl_drew ?_ | refine bl_drewN ?_ _))) ?_
              clear hK K
              refine wpMid_nil ?_
              go_wp2
              go_roundw
              case rel => exact ⟨k + 1, by omega, by go_num, by rw [HF.out], by rw [HR.out]; exact hOS, hbS⟩
              case measure => simp [intOf]; omega
          · have HP := HTR.out rfl
            have hu := Sl.oneG (enc := ec) (sz := 3) wq 60 ([], 1, false) #[.string ⟨#[]⟩, .int .i64 1, .bool false] rfl
            have hal : Below wq.heap.size wq (wq.alloc (.cells #[.string ⟨#[]⟩, .int .i64 1, .bool false] 60)) := bl_alloc bl_refl _
            have hwz := hal.size
            obtain ⟨E', hE'⟩ : ∃ z, refO (E, wd, y) = z := ⟨_, rfl⟩
            rw [hE'] at HP hO hn hLn
            have hEl : E'.length ≤ 1000 := by omega
            clear HFA HTR HC HOUT hE' h0 hW hOK howr hyr
            subst hn
            go_upto_region 16 with (at_builtin; refine wpList_app rfl redge_elem ec_len ec_one _ _ rfl w.heap.size _ _ _ [([], 1, false)] rfl rfl (hO.alloc _) hu (by simp [maxLen]; omega) (by simp; omega) (by omega) ?_; intro v3 w3 hu3 hgr3)
            have hbk3 : Below w.heap.size w w3 := bl_grown hgr3 (bl_alloc hbk _) (fun j e => (hO.lt j e).1)
            obtain ⟨wx, rfl⟩ : ∃ x, x = w3 := ⟨_, rfl⟩
            obtain ⟨wd', hwd'⟩ : ∃ z : List UInt8, [] = z := ⟨_, rfl⟩
            obtain ⟨q, hq⟩ : ∃ z, false = z := ⟨_, rfl⟩
            have hO3 := hu3
            rw [hwd', hq] at hO3
            have hwl3 : wd'.length ≤ 64 := by rw [← hwd']; simp
            have HPY : Hid (plS (E, wd, y) (c, o) = (E', wd' ++ [c], own)) := by unfold Hid; rw [HP, ← hwd']; rfl
            obtain ⟨A9, c9, rfl⟩ := hu3.shape
            have en : z + 1 = (E'.length : Int) := by omega
            rw [en]
            clear en hz
            clear hO hu3 hgr3 hu hal hwd' hq HP
            obtain ⟨L, hL⟩ : ∃ L, E' ++ [(wd', 1, q)] = L := ⟨_, rfl⟩
            have hLl : L.length = E'.length + 1 := by rw [← hL]; simp
            have hmg : L[E'.length]? = some (wd', 1, q) := by rw [← hL]; simp
            have HLS : Hid (∀ z : Edg, L.set E'.length z = E' ++ [z]) := fun z => by rw [← hL, List.set_append_right _ _ (Nat.le_refl _)]; simp
            rw [show (E' ++ [(([], 1, false) : Edg)]).length = E'.length + 1 by simp] at hO3 ⊢
            rw [hL] at hO3
            clear hL
            obtain ⟨g, rfl⟩ : ∃ g, A9 = some ⟨g, 0, none⟩ := by
              rcases hO3.2 with ⟨_, hn⟩ | ⟨g, cap, cur, hv, _⟩
              · omega
              · exact ⟨g, (Value.slice.inj hv).1⟩
            obtain ⟨_, hgw, tail, hB, hback⟩ := own_rowT ec_len hO3
            have HBK := Lib.hid hback
            have c0 := rowT_get ec_len tail hmg (j := 0) (by decide)
            have d0 : wx.cell? ⟨g, E'.length * 3, none⟩ = some (sV wd') := by have := hB.cell (E'.length * 3 + 0); rw [c0] at this; exact this
            have c2 := rowT_get ec_len tail hmg (j := 2) (by decide)
            have d2 : wx.cell? ⟨g, E'.length * 3 + 2, none⟩ = some (.bool q) := by rw [hB.cell, c2]; rfl
            unfold sV at d0
            obtain ⟨b', off', hA', hb', f0, f1⟩ := (hr.below hbk3).stp hlt
            obtain ⟨rfl, rfl⟩ : b = b' ∧ off = off' := by simpa using hA'
            rw [HX.out] at f0
            clear hA' f1 e0 e1 c0 c2 hback
            have fB := hB.facts
            have hEn : E'.length < E'.length + 1 := by omega
            go_upto_region 18 with fail
            have hcv : (convert 153 9 (.slice (some ⟨wx.heap.size, 0, none⟩) 1 1)).run Tryz.prog (wx.alloc (.cells #[.int .u8 c.toNat] 5)).drew = .ok (.string ⟨#[c]⟩) (wx.alloc (.cells #[.int .u8 c.toNat] 5)).drew := bytes_back _ wx.heap.size 1 [c] (one_byte wx c).drew
            have happ := app_str wd' c
            obtain ⟨Bs, hBs⟩ : ∃ B : ByteArray, ({ data := (wd' ++ [c]).toArray } : ByteArray) = B := ⟨_, rfl⟩
            rw [hBs] at happ
            have HSV : Hid (sV (wd' ++ [c]) = .string Bs) := by unfold Hid sV; rw [hBs]
            have hsz : ({ data := wd'.toArray } : ByteArray).size = wd'.length := rfl
            have hlim : (9223372036854775807 < wd'.length + 1) = False := eq_false (by omega)
            have hs1 : ({ data := #[c] } : ByteArray).size = 1 := rfl
            clear hBs
            have r0 := rowT_set ec_len tail (j := 0) (u := .string Bs) (wd' ++ [c], 1, q) hmg (by decide) (by rw [← HSV.out]; rfl)
            have hm1 : (L.set E'.length ((wd' ++ [c], 1, q) : Edg))[E'.length]? = some ((wd' ++ [c], 1, q) : Edg) := List.getElem?_set_self (by omega)
            have r2 := rowT_set ec_len tail (j := 2) (u := .bool (own == 1)) (wd' ++ [c], 1, (own == 1)) hm1 (by decide) rfl
            simp only [Nat.add_zero] at r0
            have hS0 := (hB.set_ (E'.length * 3) (.string Bs)).set_ (E'.length * 3 + 2) (.bool (own == 1))
            rw [r0, r2, List.set_set, HLS.out] at hS0
            have hS := (hS0.alloc (.cells #[.int .u8 c.toNat] 5)).drew
            have hOS := HBK.out _ _ (by simp; omega) hS
            have hbS := bl_drew (bl_alloc (bl_set (bl_set hbk3 hgw (.string Bs) (p := ⟨g, E'.length * 3, none⟩)) hgw (.bool (own == 1)) (p := ⟨g, E'.length * 3 + 2, none⟩)) (.cells #[.int .u8 c.toNat] 5))
            have HF : Hid (plF (l.take (k + 1)) = (E', wd' ++ [c], own)) := by unfold Hid; rw [HTT.out, HPY.out]
            have HR : Hid (refO (plF (l.take (k + 1))) = E' ++ [(wd' ++ [c], 1, (own == 1))]) := by unfold Hid; rw [HF.out, refO_put _ (by simp)]; rfl
            clear r0 r2 hm1 hmg hS hS0
            refine wp_region_ords [0, 1, 2, 3, 4, 5, 6, 7, 8, 9, 10, 11] [(12, false), (13, false), (14, false)] [15, 16, 17] (by kernel_rfl) (by kernel_rfl) (fun d _ _ _ _ h => by cases d <;> exact h) ?_
            simp only [List.map_cons, List.map_nil, List.getD_cons_zero, List.getD_cons_succ]
            repeat (go_big_quiet_step (fail))
            refine wpQuiet_nil ?_
            refine wpMid_run rfl (fun K hK => ?_)
            go_simp
            refine hK _ _ (by (repeat (first | exact bl_refl | assumption | (apply bl_then; assumption) | refine bl_alloc ?_ _ | refine bl_drew ?_ | refine bl_drewN ?_ _))) ?_
            clear hK K
            refine wpMid_run rfl (fun K hK => ?_)
            go_simp
            refine hK _ _ (by (repeat (first | exact bl_refl | assumption | (apply bl_then; assumption) | refine bl_alloc ?_ _ | refine bl_drew ?_ | refine bl_drewN ?_ _))) ?_
            clear hK K
            refine wpMid_run rfl (fun K hK => ?_)
            go_simp
            refine hK _ _ (by (repeat (first | exact bl_refl | assumption | (apply bl_then; assumption) | refine bl_alloc ?_ _ | refine bl_drew ?_ | refine bl_drewN ?_ _))) ?_
            clear hK K
            refine wpMid_nil ?_
            go_wp2
            go_roundw
            case rel => exact ⟨k + 1, by omega, by go_num, by rw [HF.out], by rw [HR.out]; exact hOS, hbS⟩
            case measure => simp [intOf]; omega
    · obtain rfl : k = l.length := by omega
      rw [HE.out] at hO
      go_wp2
      go_ret
      exact ⟨_, rfl, hO, hbk⟩
end Go.Proofs.YthkjgcldolnjaaaGreatDoor
