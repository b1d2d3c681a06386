/- Short panels are small; their frames and rests, plain. Conditions: none. -/
import Derived.Test.YthkjgcldolnjaaaGreatDoorH43
import Derived.Test.YthkjgcldolnjaaaGreatDoorH40
import Derived.Test.YthkjgcldolnjaaaGreatDoorH32
import Derived.Test.YthkjgcldolnjaaaGreatDoorH44
import Derived.Test.YthkjgcldolnjaaaGreatDoorH42
import Derived.Test.YthkjgcldolnjaaaGreatDoorH07
namespace Go.Proofs.YthkjgcldolnjaaaGreatDoor
open Go.RowKit Go.ChangeMaps
set_option maxHeartbeats 4000000
set_option maxRecDepth 100000

/-! # Short panels are small; their frames -/
theorem shLet1_len {e : Edg} (h : edgE e = 0) : shLet1 e = ((edgS e).length : Int) := by
  obtain ⟨_, _, _, h4, h5⟩ := edgE_zero h
  unfold shLet1
  rw [if_pos (by omega), edgS_len]
  push_cast
  rw [Int.toNat_of_nonneg (by omega), Int.mul_comm]
theorem shLet_len : ∀ (l : List Edg), (∀ e ∈ l, edgE e = 0) → shLet l = ((stpL l).length : Int)
  | [], _ => rfl
  | e :: r, h => by
    have ih := shLet_len r fun x hx => h x (List.mem_cons_of_mem _ hx)
    unfold shLet at ih ⊢
    rw [List.map_cons, List.sum_cons, ih, shLet1_len (h e (List.mem_cons_self ..)), stpL_cons, List.length_append]
    push_cast
    rfl
theorem shortS_len {l : List Edg} {n : Int} (h : shortS l n = true) (ok : SideOk l) : ((stpL l).length : Int) ≤ n := by
  have hf := ok.few
  unfold shortS at h
  rw [Bool.and_eq_true] at h
  have h := h.2
  rw [Bool.and_eq_true, Bool.or_eq_true] at h
  rcases h.2 with h | h
  · rw [← shLet_len l ok.ok]
    exact of_decide_eq_true h
  · have := of_decide_eq_true h
    omega
/-- a short panel is not wide, and has few letters -/
structure Small (p : Pan) (n : Nat) : Prop where
  ok : PanOk p
  wid : p.2.1 ≤ 8
  let_ : ∀ right, (stpL (sideP p right)).length ≤ n
theorem shortP_small {p : Pan} {n : Nat} (h : shortP p n = true) (ok : PanOk p) : Small p n := by
  have hw := ok.wid
  unfold shortP at h
  rw [Bool.and_eq_true, Bool.and_eq_true, Bool.and_eq_true, Bool.or_eq_true] at h
  obtain ⟨_, h2, h3, h4⟩ := h
  have h3 := shortS_len h3 ok.left
  have h4 := shortS_len h4 ok.right
  refine ⟨ok, ?_, fun right => ?_⟩
  · rcases h2 with h | h
    · exact of_decide_eq_true h
    · have := of_decide_eq_true h
      omega
  · cases right
    · show (stpL p.2.2.1).length ≤ n
      omega
    · show (stpL p.2.2.2).length ≤ n
      omega
theorem Small.near {p : Pan} {n : Nat} (h : Small p n) (right : Bool) : ∀ k ∈ outP p right, -(16 + 2 * (n : Int)) ≤ k.1 ∧ k.1 ≤ 16 + 2 * (n : Int) := by
  intro k hk
  obtain ⟨i, hi, rfl⟩ := List.getElem_of_mem hk
  unfold outP at hi ⊢
  rw [outK_get]
  have hw := h.wid
  have hw1 := h.ok.wid
  have h0 : -16 ≤ (fromP p right).1 ∧ (fromP p right).1 ≤ 16 ∧ 0 ≤ (fromP p right).2 ∧ (fromP p right).2 ≤ 16 := by
    unfold fromP
    split <;> simp only <;> omega
  have := end_near (right := right) (n := 16) ((stpL (sideP p right)).take i) h0
  have hl : (((stpL (sideP p right)).take i).length : Int) ≤ n := by
    have := h.let_ right
    simp
    omega
  omega
theorem Small.high {p : Pan} {n : Nat} (h : Small p n) : heightP p ≤ 2 * (n : Int) := by
  have h1 := (heightP_range p).2
  have h2 : (stpL p.2.2.1).length ≤ n := h.let_ false
  omega
/-- the places of a panel lie from m to M -/
structure Box (p : Pan) (m M : Int) : Prop where
  left : ∀ k ∈ outP p false, m ≤ k.1 ∧ k.1 ≤ M
  right : ∀ k ∈ outP p true, m ≤ k.1 ∧ k.1 ≤ M
theorem Small.box {p : Pan} {n : Nat} (h : Small p n) : Box p (-(16 + 2 * (n : Int))) (16 + 2 * (n : Int)) := ⟨h.near false, h.near true⟩
theorem PanOk.box {p : Pan} (h : PanOk p) : Box p (-4096) 4096 := ⟨out_near p false h.wid (h.side false).1, out_near p true h.wid (h.side true).1⟩
theorem Box.sid {p : Pan} {m M : Int} (h : Box p m M) (right : Bool) (i : Nat) (hi : i < (sidP p right).length) : (m ≤ (sidP p right)[i].1 ∧ (sidP p right)[i].1 ≤ M) ∧ m ≤ (sidP p right)[i].2 ∧ (sidP p right)[i].2 ≤ M := by
  obtain ⟨h1, h2⟩ := sid_hits right (stpL (sideP p right)) (fromP p right) i hi
  obtain ⟨k1, m1, e1⟩ := hits_mem h1
  obtain ⟨k2, m2, e2⟩ := hits_mem h2
  have hb : ∀ k ∈ outP p right, m ≤ k.1 ∧ k.1 ≤ M := by
    cases right
    · exact h.left
    · exact h.right
  have n1 := hb k1 m1
  have n2 := hb k2 m2
  rw [e1] at n1
  rw [e2] at n2
  exact ⟨n1, n2⟩
/-- a strip of a panel in a box -/
theorem Box.strip {p : Pan} {m M : Int} (h : Box p m M) (ok : PanOk p) (i : Nat) (hi : i < (strips p).length) : (m ≤ (strips p)[i].1 ∧ (strips p)[i].1 ≤ M) ∧ (m ≤ (strips p)[i].2.1 ∧ (strips p)[i].2.1 ≤ M) ∧ (m ≤ (strips p)[i].2.2.1 ∧ (strips p)[i].2.2.1 ≤ M) ∧ m ≤ (strips p)[i].2.2.2 ∧ (strips p)[i].2.2.2 ≤ M := by
  obtain ⟨e1, e2⟩ := sid_lens ok
  have n1 := h.sid false i (by omega)
  have n2 := h.sid true i (by omega)
  rw [strips_get i hi (by omega) (by omega)]
  exact ⟨n1.1, n2.1, n1.2, n2.2⟩
theorem Box.netN {p : Pan} {m M : Int} (h : Box p m M) (ok : PanOk p) : ∀ n : Nat, n ≤ (strips p).length → ((netN (strips p) n).length : Int) ≤ (M - m) * (n : Int)
  | 0, _ => by simp [Go.Proofs.YthkjgcldolnjaaaGreatDoor.netN]
  | n + 1, hn => by
    have ih := h.netN ok n (by omega)
    have hs := barsS_cnt (strips_ok ok n (by omega))
    have hb := h.strip ok n (by omega)
    have e : (strips p).getD n (0, 0, 0, 0) = (strips p)[n]'(by omega) := by
      rw [List.getD_eq_getElem?_getD, List.getElem?_eq_getElem (show n < (strips p).length by omega), Option.getD_some]
    rw [Go.Proofs.YthkjgcldolnjaaaGreatDoor.netN, List.length_append, e]
    push_cast
    rw [hs, Int.mul_add, Int.mul_one]
    omega
theorem Box.bars {p : Pan} {m M : Int} (h : Box p m M) (ok : PanOk p) : ((netL p).length : Int) ≤ (M - m) * heightP p := by
  have h1 := h.netN ok (strips p).length (Nat.le_refl _)
  have h2 := ok.high
  rw [strips_len] at h1
  rw [show (((heightP p).toNat : Nat) : Int) = heightP p by omega] at h1
  unfold netL
  rw [strips_len]
  exact h1
theorem netErr_nil {p : Pan} (ok : panE p = 0) (h : (netL p).length ≤ 4096) : netErr p = 0 := by
  unfold netErr whenI
  rw [if_pos ok, if_neg (by simp; omega)]
theorem Small.few {p : Pan} (h : Small p 16) : (netL p).length ≤ 4096 := by
  have h1 := h.box.bars h.ok
  have h2 := h.high
  have h3 := h.ok.high
  have e : (16 + 2 * ((16 : Nat) : Int) - -(16 + 2 * ((16 : Nat) : Int))) = 96 := rfl
  rw [e] at h1
  omega
/-! ## the frame -/
theorem lmF_go : ∀ (l : List Knot) (a : Int × Int), lmF l a = (l.map (·.1)).foldl minmax a
  | [], _ => rfl
  | k :: r, a => lmF_go r (minmax a k.1)
theorem allP_head (p : Pan) : ∃ r, allP p = (0, 0) :: r := by
  obtain ⟨r, hr⟩ := outK_cons false (fromP p false) (stpL (sideP p false))
  exact ⟨r ++ outP p true, by unfold allP outP; rw [hr]; rfl⟩
/-- from the greatest numbers, or from the first place: the same -/
theorem lmP_none {p : Pan} : lmF (allP p) noneR = lmP p := by
  obtain ⟨r, hr⟩ := allP_head p
  unfold lmP
  rw [hr]
  show lmF r (minmax noneR 0) = lmF r (minmax (0, 0) 0)
  rfl
theorem lmP_mem {p : Pan} {k : Knot} (hk : k ∈ allP p) : (lmP p).1 ≤ k.1 ∧ k.1 ≤ (lmP p).2 := by
  unfold lmP
  rw [lmF_go]
  exact (mm_fold ((allP p).map (·.1)) ((fromP p false).1, (fromP p false).1)).1 _ (List.mem_map.2 ⟨k, hk, rfl⟩)
theorem from_mem (p : Pan) (right : Bool) : fromP p right ∈ outP p right := by
  obtain ⟨r, hr⟩ := outK_cons right (fromP p right) (stpL (sideP p right))
  unfold outP
  rw [hr]
  exact List.mem_cons_self ..
theorem lmP_wide {p : Pan} (ok : PanOk p) : (lmP p).1 ≤ 0 ∧ 2 ≤ (lmP p).2 := by
  have h1 := lmP_mem (List.mem_append.2 (.inl (from_mem p false)) : fromP p false ∈ allP p)
  have h2 := lmP_mem (List.mem_append.2 (.inr (from_mem p true)) : fromP p true ∈ allP p)
  have hw := ok.wid
  have e1 : (fromP p false).1 = 0 := rfl
  have e2 : (fromP p true).1 = 2 * p.2.1 := rfl
  omega
theorem lmP_box {p : Pan} {m M : Int} (h : Box p m M) : m ≤ (lmP p).1 ∧ (lmP p).2 ≤ M := by
  have h0 := h.left _ (from_mem p false)
  have e1 : (fromP p false).1 = 0 := rfl
  have hb : ∀ k ∈ allP p, m ≤ k.1 ∧ k.1 ≤ M := fun k hk => by
    rcases List.mem_append.1 hk with hk | hk
    · exact h.left k hk
    · exact h.right k hk
  obtain ⟨_, _, _, h4, h5⟩ := mm_fold ((allP p).map (·.1)) ((fromP p false).1, (fromP p false).1)
  rw [← lmF_go] at h4 h5
  have e2 : lmP p = lmF (allP p) ((fromP p false).1, (fromP p false).1) := rfl
  rw [← e2] at h4 h5
  rw [e1] at h0 h4 h5
  constructor
  · rcases h4 with h4 | h4
    · rw [h4]; exact h0.1
    · obtain ⟨k, hk, e⟩ := List.mem_map.1 h4
      rw [← e]
      exact (hb k hk).1
  · rcases h5 with h5 | h5
    · rw [h5]; exact h0.2
    · obtain ⟨k, hk, e⟩ := List.mem_map.1 h5
      rw [← e]
      exact (hb k hk).2
/-- the frame: even, from the least place, and not beyond the greatest one by more than one -/
theorem frm_at {p : Pan} (ok : PanOk p) : frmX p % 2 = 0 ∧ frmX p ≤ (lmP p).1 ∧ (lmP p).1 ≤ frmX p + 1 ∧ (lmP p).2 ≤ frmX p + 2 * frmC p ∧ frmX p + 2 * frmC p ≤ (lmP p).2 + 1 ∧ 1 ≤ frmC p := by
  have hw := lmP_wide ok
  have hC : frmC p = ((lmP p).2 - frmX p + 1) / 2 := rfl
  have hX : frmX p % 2 = 0 ∧ frmX p ≤ (lmP p).1 ∧ (lmP p).1 ≤ frmX p + 1 := by
    unfold frmX
    split <;> omega
  omega
theorem PanOk.frame {p : Pan} (ok : PanOk p) : -5000 ≤ frmX p ∧ frmX p ≤ 0 ∧ 1 ≤ frmC p ∧ frmC p ≤ 5000 ∧ frmX p + 2 * frmC p ≤ 5000 := by
  have h1 := frm_at ok
  have h2 := lmP_box ok.box
  have h3 := lmP_wide ok
  omega
/-- a panel's net lies in its frame -/
theorem net_frame {p : Pan} (ok : PanOk p) {b : Bar} (hb : b ∈ netL p) : b ∈ shN (frmX p) 0 (frmC p).toNat (heightP p).toNat := by
  have hf := frm_at ok
  have hbx : Box p (lmP p).1 (lmP p).2 := ⟨fun k hk => lmP_mem (List.mem_append.2 (.inl hk)), fun k hk => lmP_mem (List.mem_append.2 (.inr hk))⟩
  obtain ⟨k, hk, hm⟩ := netN_mem _ hb
  have hs := hbx.strip ok k hk
  have e : (strips p).getD k (0, 0, 0, 0) = (strips p)[k] := by
    rw [List.getD_eq_getElem?_getD, List.getElem?_eq_getElem hk, Option.getD_some]
  rw [e] at hm
  obtain ⟨h1, h2, h3, h4, h5, h6, h7⟩ := barsS_mem hm
  rw [strips_len] at hk
  refine (shN_mem _).2 ?_
  unfold InS
  have hc : (((frmC p).toNat : Nat) : Int) = frmC p := Int.toNat_of_nonneg (by omega)
  rw [hc]
  refine ⟨?_, ?_, ?_, ?_, ?_, ?_, ?_, ?_⟩
  · omega
  · omega
  · omega
  · omega
  · omega
  · omega
  · omega
  · omega
theorem sheetE_nil {x : Int} {c r : Nat} (hx : -100000 ≤ x ∧ x + 2 * c ≤ 100000) (hp : x % 2 = 0) (hc : 1 ≤ c ∧ c ≤ 256) (hr : 1 ≤ r ∧ r ≤ 256) (hl : 2 * c * r ≤ 4096) : sheetE x 0 c r = 0 ∧ netE (shN x 0 c r) = 0 ∧ (shN x 0 c r).length = 2 * c * r := by
  have hl2 : 2 * (c : Int) * r ≤ 4096 := by exact_mod_cast hl
  have hln := sheet_len x 0 hc.1 r
  refine ⟨?_, netE_zero (fun b hb => ?_) (shN_sorted _ _ _ _) (by rw [hln]; exact hl), hln⟩
  · have s1 : shE1 x 0 c r = 0 := by
      unfold shE1
      rw [knotE_nil (by omega) (by omega) (by omega)]
      unfold withinI whenI
      rw [decide_eq_false (by omega), decide_eq_false (by omega), decide_eq_false (by omega), decide_eq_false (by omega)]
      rfl
    unfold sheetE
    rw [if_neg (by simp [s1])]
    unfold shE2 whenI reachI withinI whenI
    rw [decide_eq_false (by omega), decide_eq_false (by omega), decide_eq_false (by omega), decide_eq_false (by omega), decide_eq_false (by omega)]
    rfl
  · have := (shN_mem r).1 hb
    unfold InS at this
    obtain ⟨h1, h2, h3, h4, h5, h6, h7, h8⟩ := this
    exact barE_yes (by omega) (by omega) (by omega) h1 (by omega)
/-- the rest of a panel whose frame is not too great -/
theorem rest_eq {p : Pan} (ok : panE p = 0) (hc : frmC p ≤ 256) (hl : 2 * frmC p * heightP p ≤ 4096) (hn : (netL p).length ≤ 4096) :
    restE p = 0 ∧ restL p = wout (shN (frmX p) 0 (frmC p).toNat (heightP p).toNat) (netL p) := by
  have hok := panE_zero ok
  have hf := hok.frame
  have hh := hok.high
  obtain ⟨c, hC⟩ : ∃ c : Nat, frmC p = c := ⟨(frmC p).toNat, by omega⟩
  obtain ⟨r, hR⟩ : ∃ r : Nat, heightP p = r := ⟨(heightP p).toNat, by omega⟩
  have hev := (frm_at hok).1
  rw [hC] at hf hc hl
  rw [hR] at hh hl
  have hl2 : 2 * c * r ≤ 4096 := by exact_mod_cast hl
  obtain ⟨s1, s2, s3⟩ := sheetE_nil (x := frmX p) (c := c) (r := r) (by omega) hev (by omega) (by omega) hl2
  have hL : sheetL (frmX p) 0 c r = shN (frmX p) 0 c r := by
    unfold sheetL
    rw [if_pos s1, Int.toNat_natCast, Int.toNat_natCast]
  have hM : mergeL minusK (shN (frmX p) 0 c r) (netL p) = wout (shN (frmX p) 0 c r) (netL p) := merge_minus (shN_sorted _ _ _ _) (netN_asc _ _)
  have hE : restE p = 0 := by
    unfold restE
    rw [netErr_nil ok hn, if_neg (by simp), hC, hR, if_neg (by omega), if_neg (by simp [s1]), hL]
    unfold putE twoE
    rw [s2, netL_netE hok hn, if_neg (by simp [firstI]), hM, if_neg]
    have := wout_len (shN (frmX p) 0 c r) (netL p)
    omega
  refine ⟨hE, ?_⟩
  unfold restL
  rw [if_pos hE, hC, hR, hL, hM, Int.toNat_natCast, Int.toNat_natCast]
theorem Small.frame {p : Pan} (h : Small p 16) : frmC p ≤ 256 ∧ 2 * frmC p * heightP p ≤ 4096 := by
  have h1 := frm_at h.ok
  have h2 := lmP_box h.box
  have h3 := h.high
  have h4 := h.ok.high
  have hc : frmC p ≤ 49 := by omega
  refine ⟨by omega, ?_⟩
  have := Int.mul_le_mul (show 2 * frmC p ≤ 98 by omega) (show heightP p ≤ 32 by omega) (by omega) (by omega)
  omega
theorem small_all {p : Pan} (h : shortP p 16 = true) (ok : panE p = 0) : netErr p = 0 ∧ restE p = 0 ∧ restL p = wout (shN (frmX p) 0 (frmC p).toNat (heightP p).toNat) (netL p) := by
  have hs := shortP_small (n := 16) h (panE_zero ok)
  obtain ⟨h1, h2⟩ := rest_eq ok hs.frame.1 hs.frame.2 hs.few
  exact ⟨netErr_nil ok hs.few, h1, h2⟩
theorem filt_len {α : Type} (p : α → Bool) : ∀ l : List α, (l.filter fun x => !p x).length + (l.filter p).length = l.length
  | [] => rfl
  | x :: r => by
    have ih := filt_len p r
    cases h : p x
    · rw [List.filter_cons_of_pos (by simp [h]), List.filter_cons_of_neg (by simp [h]), List.length_cons, List.length_cons]
      omega
    · rw [List.filter_cons_of_neg (by simp [h]), List.filter_cons_of_pos (by simp [h]), List.length_cons, List.length_cons]
      omega
/-- bars of a list that lie in another one -/
theorem wout_cnt {a b : List Bar} (ha : a.Nodup) (hb : b.Nodup) (h : ∀ x ∈ b, x ∈ a) : (wout a b).length + b.length = a.length := by
  have h1 : (wout a b).length + (meetL a b).length = a.length := by
    exact filt_len (fun x => hasb b x) a
  have h2 : (meetL a b).length = b.length := by
    have hp : (meetL a b).Perm b := (List.perm_ext_iff_of_nodup (ha.filter _) hb).2 fun x => by
      show x ∈ meetL a b ↔ x ∈ b
      rw [meet_mem]
      exact ⟨fun h => h.2, fun hx => ⟨h x hx, hx⟩⟩
    exact hp.length_eq
  omega
end Go.Proofs.YthkjgcldolnjaaaGreatDoor

/- The law's helper net; the reference's Net, walked. Conditions: the panel is valid. -/
namespace Go.Proofs.YthkjgcldolnjaaaGreatDoor
open Go.RowKit Go.ChangeMaps
set_option maxHeartbeats 4000000
set_option maxRecDepth 100000

attribute [local go_sem] Oper.semAt_some
/-- does an answer agree with the reference: the error e and nothing, or no error and the same bars -/
def netBP (l : List Bar) (E e : Int) (m : List Bar) : Bool := if e ≠ 0 then (decide (l = []) && E == e) else (E == 0 && decide (l = m))
/-! # The law's helper net; the reference's Net, Rows -/
theorem lnetP_any {v u : Value} (l m : List Bar) (E e : Int) (w : World) (h : SlB w v l) (h' : SlB w u m) : Calls Tryz.prog 24 #[v, .int .i64 E, .int .i64 e, u] w (RV w (.bool (netBP l E e m))) := by
  by_cases he : e = 0
  · subst he
    by_cases hE : E = 0
    · subst hE
      have HN : Hid (netBP l 0 0 m = decide (l = m)) := by unfold Hid netBP; simp
      go_enter Tryz.func24, Tryz.ntmps24
      go_wp2_with (go_at_call 43; refine (sameBars_any l m _ h h').mono ?_; rintro e w1 ⟨rfl, hb1⟩)
      go_ret
      exact ⟨by rw [HN.out]; rfl, by (repeat (first | exact bl_refl | assumption | (apply bl_then; assumption) | refine bl_alloc ?_ _ | refine bl_drew ?_ | refine bl_drewN ?_ _))⟩
    · have HN : Hid (netBP l E 0 m = false) := by unfold Hid netBP; simp [hE]
      have hE' : (E == 0) = false := by simp [hE]
      clear hE
      go_enter Tryz.func24, Tryz.ntmps24
      go_wp2
      go_ret
      exact ⟨by rw [HN.out]; rfl, by (repeat (first | exact bl_refl | assumption | (apply bl_then; assumption) | refine bl_alloc ?_ _ | refine bl_drew ?_ | refine bl_drewN ?_ _))⟩
  · have he' : (e != 0) = true := by simp [he]
    obtain ⟨A, c, rfl, _, _, _⟩ := h
    cases l with
    | nil =>
      have HN : Hid (netBP [] E e m = (E == e)) := by unfold Hid netBP; rw [if_pos he]; simp
      clear he
      go_enter Tryz.func24, Tryz.ntmps24
      go_wp2
      go_ret
      exact ⟨by rw [HN.out]; rfl, by (repeat (first | exact bl_refl | assumption | (apply bl_then; assumption) | refine bl_alloc ?_ _ | refine bl_drew ?_ | refine bl_drewN ?_ _))⟩
    | cons b l =>
      have HN : Hid (netBP (b :: l) E e m = false) := by unfold Hid netBP; rw [if_pos he]; simp
      have hlz : ((((b :: l).length : Nat) : Int) == 0) = false := beq_false_of_ne (by simp; omega)
      obtain ⟨n, hn⟩ : ∃ n, (b :: l).length = n := ⟨_, rfl⟩
      rw [hn] at hlz ⊢
      clear he hn
      go_enter Tryz.func24, Tryz.ntmps24
      go_wp2
      go_ret
      exact ⟨by rw [HN.out]; rfl, by (repeat (first | exact bl_refl | assumption | (apply bl_then; assumption) | refine bl_alloc ?_ _ | refine bl_drew ?_ | refine bl_drewN ?_ _))⟩
theorem riskn_any (x y : Int) (w : World) : Calls Tryz.prog 79 #[.int .i64 x, .int .i64 y] w (RV w (.bool (knotE x y == 0))) := by
  have hc := fun W => rknot_any x y W
  obtain ⟨E, hE⟩ : ∃ E, knotE x y = E := ⟨_, rfl⟩
  rw [hE] at hc ⊢
  clear hE
  go_enter Tryz.func79, Tryz.ntmps79
  go_wp2_with fail
  refine (hc _).mono ?_
  rintro e w1 ⟨rfl, hb1⟩
  go_wp2
  go_ret
  exact ⟨rfl, by (repeat (first | exact bl_refl | assumption | (apply bl_then; assumption) | refine bl_alloc ?_ _ | refine bl_drew ?_ | refine bl_drewN ?_ _))⟩
theorem knotE_even {x y : Int} (hx : -100000 ≤ x ∧ x ≤ 100000) (hy : -100000 ≤ y ∧ y ≤ 100000) (h : (x + y) % 2 = 0) : (knotE x y == 0) = true := by
  rw [knotE_nil hx hy h]
  rfl
theorem knotE_odd {x y : Int} (hx : -100000 ≤ x ∧ x ≤ 100000) (hy : -100000 ≤ y ∧ y ≤ 100000) (h : ¬ (x + y) % 2 = 0) : (knotE x y == 0) = false := by
  unfold knotE farB
  rw [decide_eq_false (by omega), decide_eq_false (by omega), decide_eq_false (by omega), decide_eq_false (by omega), if_neg h]
  rfl
theorem rnetP_any {vL vR : Value} (p : Pan) (w : World) (hL : SlE w vL p.2.2.1) (hR : SlE w vR p.2.2.2) (hok : PanOk p) :
    Calls Tryz.prog 25 #[.agg #[sV p.1, .int .i64 p.2.1, vL, vR]] w (RB w (netL p)) := by
  have cS := fun W (hb : Below w.heap.size w W) => rstrips_any p W (hL.below hb) (hR.below hb) hok
  have hS := strips_near hok
  have hSl := strips_le hok
  have HN : Hid (netL p = netN (strips p) (strips p).length) := rfl
  obtain ⟨AL, cL, rfl, _, _, _⟩ := hL
  obtain ⟨AR, cR, rfl, _, _, _⟩ := hR
  unfold sV at cS ⊢
  obtain ⟨S, hSS⟩ : ∃ S, strips p = S := ⟨_, rfl⟩
  rw [hSS] at cS hS hSl HN
  obtain ⟨T, hT⟩ : ∃ T, netL p = T := ⟨_, rfl⟩
  rw [hT] at HN ⊢
  have hP := Blk.new w 24 #[.string ⟨p.1.toArray⟩, .int .i64 p.2.1, .slice AL p.2.2.1.length cL, .slice AR p.2.2.2.length cR]
  have fhP := hP.facts
  have HSN := Lib.hid hS
  have HLN := Lib.hid (netN_len hS)
  clear hok hSS hT hS
  go_enter Tryz.func25, Tryz.ntmps25
  go_wp2_with fail
  refine (cS _ (by (repeat (first | exact bl_refl | assumption | (apply bl_then; assumption) | refine bl_alloc ?_ _ | refine bl_drew ?_ | refine bl_drewN ?_ _)))).mono ?_
  rintro e w2 ⟨v2, rfl, hO2, hb2⟩
  replace hP := hP.below (show Below _ _ w2 by (repeat (first | exact bl_refl | assumption | (apply bl_then; assumption) | refine bl_alloc ?_ _ | refine bl_drew ?_ | refine bl_drewN ?_ _)))
  replace fhP := hP.facts
  obtain ⟨A2, c2, rfl⟩ := hO2.shape
  obtain ⟨_, _, he2, _, _, hr2⟩ := hO2.rd trc_len
  obtain ⟨rfl, rfl⟩ : A2 = _ ∧ c2 = _ := by simpa using he2
  have hbw2 : Below w.heap.size w w2 := by (repeat (first | exact bl_refl | assumption | (apply bl_then; assumption) | refine bl_alloc ?_ _ | refine bl_drew ?_ | refine bl_drewN ?_ _))
  clear hP fhP hb2 he2 cS hO2
  go_wp2
  go_loopw [3, 5] (fun s3 s5 wr => ∃ k : Nat, k ≤ S.length ∧ s5 = .int .i64 k ∧ OwB w2.heap.size wr s3 (netN S k) ∧ Below w2.heap.size w2 wr) (fun _ s _ => S.length - (intOf s).toNat)
  case atStart => exact ⟨0, Nat.zero_le _, rfl, Own.nil_, bl_refl⟩
  case round =>
    obtain ⟨k, hk, rfl, hO, hbk⟩ := hrel
    obtain ⟨wo, rfl⟩ : ∃ x, x = wr := ⟨_, rfl⟩
    have hl := HLN.out k hk
    by_cases hlt : k < S.length
    · obtain ⟨b, off, rfl, hb, e0, e1, e2, e3⟩ := (hr2.below hbk).strp hlt
      have hs := HSN.out _ (List.getElem_mem hlt)
      have HT : Hid (netN S (k + 1) = netN S k ++ barsS S[k] (k : Int)) := by
        unfold Hid
        rw [netN, List.getD_eq_getElem?_getD, List.getElem?_eq_getElem hlt, Option.getD_some]
      obtain ⟨⟨l0, l1, u0, u1⟩, hx⟩ : ∃ z, S[k] = z := ⟨_, rfl⟩
      rw [hx] at e0 e1 e2 e3 HT hs
      unfold nearS at hs
      simp only at e0 e1 e2 e3 hs
      clear hx
      obtain ⟨N, hN⟩ : ∃ N, (l1 - l0 + 1).toNat = N := ⟨_, rfl⟩
      have hN2 : (N : Int) ≤ 200001 := by omega
      have HNN := Lib.hid hN
      have HB : Hid (barsS (l0, l1, u0, u1) (k : Int) = barsN (l0, l1, u0, u1) (k : Int) N) := by unfold Hid barsS; rw [hN]
      obtain ⟨Z, hZ⟩ : ∃ Z : Strp, (l0, l1, u0, u1) = Z := ⟨_, rfl⟩
      have HZ := Lib.hid hZ
      rw [hZ] at HT HB
      have HL := Lib.hid (fun n => barsN_len Z (k : Int) n)
      have HX : Hid (∀ n, barsN Z (k : Int) (n + 1) = barsN Z (k : Int) n ++ barsX Z (k : Int) (l0 + (n : Int))) := by intro n; rw [← hZ]; rfl
      obtain ⟨L0, hL0⟩ : ∃ L, netN S k = L := ⟨_, rfl⟩
      rw [hL0] at hO hl HT
      clear hZ hN hL0
      obtain ⟨AO, cO, rfl⟩ := hO.shape
      have hS6 := Blk.new wo 124 #[.int .i64 l0, .int .i64 l1, .int .i64 u0, .int .i64 u1]
      have fS6 := hS6.facts
      have hO6 := hO.alloc (.cells #[.int .i64 l0, .int .i64 l1, .int .i64 u0, .int .i64 u1] 124)
      have hb6 := bl_alloc hbk (.cells #[.int .i64 l0, .int .i64 l1, .int .i64 u0, .int .i64 u1] 124)
      go_wp2
      go_loopw [3, 7] (fun s3 s7 wr => ∃ n : Nat, n ≤ N ∧ s7 = .int .i64 (l0 + (n : Int)) ∧ OwB w2.heap.size wr s3 (L0 ++ barsN Z (k : Int) n) ∧ Blk wr wo.heap.size 124 #[.int .i64 l0, .int .i64 l1, .int .i64 u0, .int .i64 u1] ∧ Below w2.heap.size w2 wr) (fun _ s7 _ => (l1 + 1 - intOf s7).toNat)
      case atStart => exact ⟨0, Nat.zero_le _, by simp, by simpa [barsN] using hO6, hS6, hb6⟩
      case round =>
        clear hS6 fS6 hO6 hb6 hO hbk
        obtain ⟨n, hn, rfl, hO, hS, hbk⟩ := hrel
        obtain ⟨wx, rfl⟩ : ∃ x, x = wr := ⟨_, rfl⟩
        have hnl := HL.out n
        have hX1 := HX.out n
        have HX1 : Hid (L0 ++ barsN Z (k : Int) (n + 1) = (L0 ++ barsN Z (k : Int) n) ++ barsX Z (k : Int) (l0 + (n : Int))) := by unfold Hid; rw [hX1, List.append_assoc]
        clear hX1
        obtain ⟨L, hL⟩ : ∃ L, L0 ++ barsN Z (k : Int) n = L := ⟨_, rfl⟩
        have hll : L.length ≤ 110000000 := by rw [← hL, List.length_append]; omega
        have HM0 := Lib.hid hL
        rw [hL] at hO HX1
        clear hL
        obtain ⟨x, hx⟩ : ∃ x, l0 + (n : Int) = x := ⟨_, rfl⟩
        rw [hx] at HX1
        have fS := hS.facts
        by_cases hlt2 : x ≤ l1
        · have t0 : (x ≤ l1) = True := eq_true hlt2
          have hxn : -100000 ≤ x ∧ x ≤ 100000 := by omega
          obtain ⟨hx1, hx2⟩ := hxn
          have hnn : n + 1 ≤ N := by have := HNN.out; omega
          have HNX : Hid (l0 + ((n + 1 : Nat) : Int) = x + 1) := by unfold Hid; push_cast; omega
          have ck := fun W => riskn_any x (k : Int) W
          rw [hx]
          clear hx
          by_cases he : (x + (k : Int)) % 2 = 0
          · have HE : Hid (L0 ++ barsN Z (k : Int) (n + 1) = L ++ barAts Z (k : Int) x 2) := by unfold Hid; rw [HX1.out, barsX_even he]
            rw [knotE_even ⟨hx1, hx2⟩ (by omega) he] at ck
            clear he HX1
            obtain ⟨AO, cO, rfl⟩ := hO.shape
            go_wp2
            go_loopw [3, 8] (fun s3 s8 wr => ∃ (j : Nat) (m : Int), ((j = 0 ∧ m = -1) ∨ (j = 1 ∧ m = 1) ∨ (j = 2 ∧ m = 3)) ∧ s8 = .int .i64 m ∧ OwB w2.heap.size wr s3 (L ++ barAts Z (k : Int) x j) ∧ Blk wr wo.heap.size 124 #[.int .i64 l0, .int .i64 l1, .int .i64 u0, .int .i64 u1] ∧ Below w2.heap.size w2 wr) (fun _ s8 _ => (3 - intOf s8).toNat)
            case atStart => exact ⟨0, -1, .inl ⟨rfl, rfl⟩, rfl, by simpa [barAts] using hO, hS, hbk⟩
            case round =>
              clear hO hS hbk fS
              obtain ⟨j, m, hjm, rfl, hO, hS, hbk⟩ := hrel
              obtain ⟨wi, rfl⟩ : ∃ x, x = wr := ⟨_, rfl⟩
              have fS := hS.facts
              have hjl := barAts_len Z (k : Int) x j
              obtain ⟨M, hM⟩ : ∃ M, L ++ barAts Z (k : Int) x j = M := ⟨_, rfl⟩
              have hMl : M.length ≤ 200000000 := by rw [← hM, List.length_append]; omega
              rw [hM] at hO
              obtain ⟨AO, cO, rfl⟩ := hO.shape
              rcases hjm with ⟨rfl, rfl⟩ | ⟨rfl, rfl⟩ | ⟨rfl, rfl⟩
              · have HM : Hid (L ++ barAts Z (k : Int) x 1 = M ++ barAt Z (k : Int) x (-1)) := by unfold Hid; rw [← hM]; simp [barAts]
                clear hM hjl
                go_wp2_with fail
                refine (ck _).mono ?_
                rintro e w8 ⟨rfl, hb8⟩
                have hS8 := hS.below hb8
                have fS8 := hS8.facts
                have hO8 := hO.below hb8
                have hb08 : Below w2.heap.size w2 w8 := bl_then hb8 hbk
                clear fS
                by_cases h1 : u0 ≤ x + -1
                · have q1 : (u0 ≤ x + -1) = True := eq_true h1
                  by_cases h2 : x + -1 ≤ u1
                  · have q2 : (x + -1 ≤ u1) = True := eq_true h2
                    have HA : Hid (barAt Z (k : Int) x (-1) = [(x, (k : Int), -1)]) := by unfold Hid barAt; rw [← HZ.out, if_pos ⟨h1, h2⟩]
                    clear h1 h2
                    have hu := Sl.oneG (enc := bc) (sz := 3) w8 95 (x, (k : Int), -1) #[.int .i64 x, .int .i64 (k : Int), .int .i64 (-1)] rfl
                    go_wp2_with (at_builtin; refine wpList_app rfl bar_elem bc_len bc_one _ _ rfl w2.heap.size _ _ _ _ rfl rfl (hO8.alloc _) hu (by simp [maxLen]; omega) (by simp; omega) (by have := hb08.size; simp; omega) ?_; intro v2 w10 hown2 hgr2)
                    go_roundw
                    case rel => exact ⟨1, 1, by decide, rfl, by rw [HM.out, HA.out]; exact hown2, (hS8.alloc _).grown hgr2 (hO8.ne_blk hS8 (by decide)), bl_grown hgr2 (bl_alloc hb08 _) (fun k e => (hO8.lt k e).1)⟩
                    case measure => simp [intOf]
                  · have q2 : (x + -1 ≤ u1) = False := eq_false h2
                    have HA : Hid (barAt Z (k : Int) x (-1) = []) := by unfold Hid barAt; rw [← HZ.out, if_neg (fun h => h2 h.2)]
                    clear h1 h2
                    go_wp2
                    go_roundw
                    case rel => exact ⟨1, 1, by decide, rfl, by rw [HM.out, HA.out, List.append_nil]; exact hO8, hS8, hb08⟩
                    case measure => simp [intOf]
                · have q1 : (u0 ≤ x + -1) = False := eq_false h1
                  have HA : Hid (barAt Z (k : Int) x (-1) = []) := by unfold Hid barAt; rw [← HZ.out, if_neg (fun h => h1 h.1)]
                  clear h1
                  go_wp2
                  go_roundw
                  case rel => exact ⟨1, 1, by decide, rfl, by rw [HM.out, HA.out, List.append_nil]; exact hO8, hS8, hb08⟩
                  case measure => simp [intOf]
              · have HM : Hid (L ++ barAts Z (k : Int) x 2 = M ++ barAt Z (k : Int) x 1) := by unfold Hid; rw [← hM]; simp [barAts]
                clear hM hjl
                go_wp2_with fail
                refine (ck _).mono ?_
                rintro e w8 ⟨rfl, hb8⟩
                have hS8 := hS.below hb8
                have fS8 := hS8.facts
                have hO8 := hO.below hb8
                have hb08 : Below w2.heap.size w2 w8 := bl_then hb8 hbk
                clear fS
                by_cases h1 : u0 ≤ x + 1
                · have q1 : (u0 ≤ x + 1) = True := eq_true h1
                  by_cases h2 : x + 1 ≤ u1
                  · have q2 : (x + 1 ≤ u1) = True := eq_true h2
                    have HA : Hid (barAt Z (k : Int) x (1) = [(x, (k : Int), 1)]) := by unfold Hid barAt; rw [← HZ.out, if_pos ⟨h1, h2⟩]
                    clear h1 h2
                    have hu := Sl.oneG (enc := bc) (sz := 3) w8 95 (x, (k : Int), 1) #[.int .i64 x, .int .i64 (k : Int), .int .i64 (1)] rfl
                    go_wp2_with (at_builtin; refine wpList_app rfl bar_elem bc_len bc_one _ _ rfl w2.heap.size _ _ _ _ rfl rfl (hO8.alloc _) hu (by simp [maxLen]; omega) (by simp; omega) (by have := hb08.size; simp; omega) ?_; intro v2 w10 hown2 hgr2)
                    go_roundw
                    case rel => exact ⟨2, 3, by decide, rfl, by rw [HM.out, HA.out]; exact hown2, (hS8.alloc _).grown hgr2 (hO8.ne_blk hS8 (by decide)), bl_grown hgr2 (bl_alloc hb08 _) (fun k e => (hO8.lt k e).1)⟩
                    case measure => simp [intOf]
                  · have q2 : (x + 1 ≤ u1) = False := eq_false h2
                    have HA : Hid (barAt Z (k : Int) x (1) = []) := by unfold Hid barAt; rw [← HZ.out, if_neg (fun h => h2 h.2)]
                    clear h1 h2
                    go_wp2
                    go_roundw
                    case rel => exact ⟨2, 3, by decide, rfl, by rw [HM.out, HA.out, List.append_nil]; exact hO8, hS8, hb08⟩
                    case measure => simp [intOf]
                · have q1 : (u0 ≤ x + 1) = False := eq_false h1
                  have HA : Hid (barAt Z (k : Int) x (1) = []) := by unfold Hid barAt; rw [← HZ.out, if_neg (fun h => h1 h.1)]
                  clear h1
                  go_wp2
                  go_roundw
                  case rel => exact ⟨2, 3, by decide, rfl, by rw [HM.out, HA.out, List.append_nil]; exact hO8, hS8, hb08⟩
                  case measure => simp [intOf]
              · have HM : Hid (L0 ++ barsN Z (k : Int) (n + 1) = M) := by unfold Hid; rw [HE.out, hM]
                clear hM hjl
                go_wp2
                go_roundw
                case rel => exact ⟨n + 1, hnn, by rw [HNX.out], by rw [HM.out]; exact hO, hS, hbk⟩
                case measure => simp [intOf]; omega
          · have HE : Hid (L0 ++ barsN Z (k : Int) (n + 1) = L) := by unfold Hid; rw [HX1.out, barsX_odd he, List.append_nil]
            rw [knotE_odd ⟨hx1, hx2⟩ (by omega) he] at ck
            clear he HX1
            obtain ⟨AO, cO, rfl⟩ := hO.shape
            go_wp2
            go_loopw [3, 8] (fun s3 s8 wr => ∃ m : Int, (m = -1 ∨ m = 1 ∨ m = 3) ∧ s8 = .int .i64 m ∧ OwB w2.heap.size wr s3 L ∧ Blk wr wo.heap.size 124 #[.int .i64 l0, .int .i64 l1, .int .i64 u0, .int .i64 u1] ∧ Below w2.heap.size w2 wr) (fun _ s8 _ => (3 - intOf s8).toNat)
            case atStart => exact ⟨-1, .inl rfl, rfl, hO, hS, hbk⟩
            case round =>
              clear hO hS hbk fS
              obtain ⟨m, hjm, rfl, hO, hS, hbk⟩ := hrel
              obtain ⟨wi, rfl⟩ : ∃ x, x = wr := ⟨_, rfl⟩
              have fS := hS.facts
              rcases hjm with rfl | rfl | rfl
              · go_wp2_with fail
                refine (ck _).mono ?_
                rintro e w8 ⟨rfl, hb8⟩
                have hb08 : Below w2.heap.size w2 w8 := bl_then hb8 hbk
                go_wp2
                go_roundw
                case rel => exact ⟨1, .inr (.inl rfl), rfl, hO.below hb8, hS.below hb8, hb08⟩
                case measure => simp [intOf]
              · go_wp2_with fail
                refine (ck _).mono ?_
                rintro e w8 ⟨rfl, hb8⟩
                have hb08 : Below w2.heap.size w2 w8 := bl_then hb8 hbk
                go_wp2
                go_roundw
                case rel => exact ⟨3, .inr (.inr rfl), rfl, hO.below hb8, hS.below hb8, hb08⟩
                case measure => simp [intOf]
              · go_wp2
                go_roundw
                case rel => exact ⟨n + 1, hnn, by rw [HNX.out], by rw [HE.out]; exact hO, hS, hbk⟩
                case measure => simp [intOf]; omega
        · have t0 : (x ≤ l1) = False := eq_false hlt2
          have HE : Hid (netN S (k + 1) = L) := by
            have h1 := HNN.out
            obtain rfl : n = N := by omega
            unfold Hid
            rw [HT.out, HB.out]
            exact HM0.out
          obtain ⟨AO, cO, rfl⟩ := hO.shape
          rw [hx]
          clear hx HX1
          go_wp2
          go_roundw
          case rel => exact ⟨k + 1, by omega, by go_num, by rw [HE.out]; exact hO, hbk⟩
          case measure => simp [intOf]; omega
    · obtain rfl : k = S.length := by omega
      rw [← HN.out] at hO
      go_wp2
      go_ret
      exact ⟨_, rfl, hO.base_mono hbw2.size, bl_then hbk hbw2⟩
end Go.Proofs.YthkjgcldolnjaaaGreatDoor
