/- Edges of the reference compared. Conditions: none. -/
import Derived.Test.YtkkefahobjlagaaGreatDoorQ34
namespace Go.Proofs.YtkkefahobjlagaaGreatDoor
open Go.RowKit Go.ChangeMaps
set_option maxHeartbeats 4000000
set_option maxRecDepth 100000
attribute [local go_sem] Oper.semAt_some
def beqE (a b : Edg) : Bool := decide (a = b)
theorem eqin_redge (d : Nat) (a b : Edg) (w : World) : (Op.equalIn (d + 2) 132 (.agg #[.string ⟨a.1.toArray⟩, .int .i64 a.2.1, .bool a.2.2]) (.agg #[.string ⟨b.1.toArray⟩, .int .i64 b.2.1, .bool b.2.2])).run Tryz.prog w = .ok (beqE a b) w := by
 rw [run_equalIn_struct w (d + 1) 132 _ _ (by kernel_rfl) (by kernel_rfl)]
 unfold beqE
 obtain ⟨s, t, o⟩ := a
 obtain ⟨s', t', o'⟩ := b
 have hE := ba_eq s s'
 by_cases h1 : s = s' <;> by_cases h2 : t = t' <;> by_cases h3 : o = o' <;> simp [go_sem, h1, h2, h3]
theorem neq_redge (a b : Edg) (w : World) : (binOp .neq 132 (.agg #[.string ⟨a.1.toArray⟩, .int .i64 a.2.1, .bool a.2.2]) (.agg #[.string ⟨b.1.toArray⟩, .int .i64 b.2.1, .bool b.2.2])).run Tryz.prog w = .ok (.bool (!beqE a b)) w := by
 simp only [binOp]
 simp [Op.equal, Op.maxDepth, eqin_redge 9998]
theorem sameEdges_any {v u : Value} (l r : List Edg) (w : World) (h : SlE w v l) (h' : SlE w u r) : Calls Tryz.prog 113 #[v, u] w (RV w (.bool (decide (l = r)))) := by
 obtain ⟨A, c, rfl, hlc, hcm, h⟩ := h
 obtain ⟨A', c', rfl, hlc', hcm', h'⟩ := h'
 have hl : l.length ≤ maxLen := Nat.le_trans hlc hcm
 have hl' : r.length ≤ maxLen := Nat.le_trans hlc' hcm'
 unfold maxLen at hl hl'
 by_cases hlen : l.length = r.length
 ·have he2 : ((l.length : Int) != (r.length : Int)) = false := by simp [hlen]
  go_enter Tryz.func113, Tryz.ntmps113
  go_wp2
  go_loopw [5] (fun i wr => ∃ k : Nat, k ≤ l.length ∧ i = .int .i64 k ∧ Hid (decide (l = r) = decide (l.drop k = r.drop k)) ∧ Below w.heap.size w wr) (fun i _ => l.length - (intOf i).toNat)
  case atStart => exact ⟨0, Nat.zero_le _, rfl, by simp [Hid], by (repeat first|exact J0|assumption|(apply J1;assumption)|apply J2|apply J3|apply J4)⟩
  case round =>
   obtain ⟨k, hk, rfl, H, hbw⟩ := hrel
   by_cases hlt : k < l.length
   ·have hr := h.below hbw
    have hr' := h'.below hbw
    obtain ⟨b, off, rfl, hb, e0, e1, e2⟩ := hr.edge hlt
    obtain ⟨b', off', rfl, hb', e0', e1', e2'⟩ := hr'.edge (hlen ▸ hlt)
    have HD := Lib.hid (same_drop hlen hlt)
    have hlt' : k < r.length := hlen ▸ hlt
    obtain ⟨g, hg⟩ : ∃ g, beqE l[k] r[k] = g := ⟨_, rfl⟩
    have HG : Hid (decide (l[k] = r[k]) = g) := hg
    have hN := neq_redge l[k] r[k]
    rw [hg] at hN
    obtain ⟨⟨s, t, o⟩, hx⟩ : ∃ z, l[k] = z := ⟨_, rfl⟩
    obtain ⟨⟨s', t', o'⟩, hx'⟩ : ∃ z, r[k] = z := ⟨_, rfl⟩
    rw [hx] at e0 e1 e2 HG HD hN
    rw [hx'] at e0' e1' e2' HG HD hN
    simp only at e0 e1 e2 e0' e1' e2' hN
    clear hg hx hx'
    cases g
    ·go_wp2
     refine wp_region_ords [0, 1, 2, 3, 4, 5, 6, 7, 8] [] [] (by kernel_rfl) (by kernel_rfl) (fun d _ _ _ _ h => by cases d <;> exact h) ?_
     simp only [List.map_cons, List.map_nil, List.getD_cons_zero, List.getD_cons_succ]
     repeat (go_big_quiet_step (fail))
     refine wpQuiet_nil ?_
     refine wpMid_nil ?_
     go_wp2
     go_ret
     exact ⟨ret_bool (by rw [H.out, HD.out, HG.out]; rfl), by (repeat first|exact J0|assumption|(apply J1;assumption)|apply J2|apply J3|apply J4)⟩
    ·go_wp2
     refine wp_region_ords [0, 1, 2, 3, 4, 5, 6, 7, 8] [] [] (by kernel_rfl) (by kernel_rfl) (fun d _ _ _ _ h => by cases d <;> exact h) ?_
     simp only [List.map_cons, List.map_nil, List.getD_cons_zero, List.getD_cons_succ]
     repeat (go_big_quiet_step (fail))
     refine wpQuiet_nil ?_
     refine wpMid_nil ?_
     go_wp2
     go_roundw
     case rel => exact ⟨k + 1, by omega, by go_num, by rw [H.out, HD.out, HG.out]; rfl, by (repeat first|exact J0|assumption|(apply J1;assumption)|apply J2|apply J3|apply J4)⟩
     case measure => simp [intOf]; omega
   ·have hkl : k = l.length := by omega
    go_wp2
    go_ret
    refine ⟨ret_bool ?_, by (repeat first|exact J0|assumption|(apply J1;assumption)|apply J2|apply J3|apply J4)⟩
    rw [H.out, hkl, List.drop_length, hlen, List.drop_length]; rfl
 ·have he2 : ((l.length : Int) != (r.length : Int)) = true := by simp; omega
  have hd : Hid (decide (l = r) = false) := by simp [Hid]; rintro rfl; exact hlen rfl
  go_enter Tryz.func113, Tryz.ntmps113
  go_wp2
  go_ret
  exact ⟨ret_bool hd.out.symm, by (repeat first|exact J0|assumption|(apply J1;assumption)|apply J2|apply J3|apply J4)⟩
def eqP (p q : Pan) : Bool := decide (p.1 = q.1) && (decide (p.2.1 = q.2.1) && (decide (p.2.2.1 = q.2.2.1) && decide (p.2.2.2 = q.2.2.2)))
theorem samePanel_any {vL vR uL uR : Value} (p q : Pan) (w : World) (hL : SlE w vL p.2.2.1) (hR : SlE w vR p.2.2.2) (hL' : SlE w uL q.2.2.1) (hR' : SlE w uR q.2.2.2) :
  Calls Tryz.prog 49 #[.agg #[sV p.1, .int .i64 p.2.1, vL, vR], .agg #[sV q.1, .int .i64 q.2.1, uL, uR]] w (RV w (.bool (eqP p q))) := by
 have c1 := fun W (hb : Below w.heap.size w W) => sameEdges_any p.2.2.1 q.2.2.1 W (hL.below hb) (hL'.below hb)
 have c2 := fun W (hb : Below w.heap.size w W) => sameEdges_any p.2.2.2 q.2.2.2 W (hR.below hb) (hR'.below hb)
 have HD : Hid (eqP p q = (decide (p.1 = q.1) && (decide (p.2.1 = q.2.1) && (decide (p.2.2.1 = q.2.2.1) && decide (p.2.2.2 = q.2.2.2))))) := rfl
 obtain ⟨AL, cL, rfl, _, _, _⟩ := hL
 obtain ⟨AR, cR, rfl, _, _, _⟩ := hR
 obtain ⟨AL', cL', rfl, _, _, _⟩ := hL'
 obtain ⟨AR', cR', rfl, _, _, _⟩ := hR'
 have hE := ba_eq p.1 q.1
 unfold sV
 obtain ⟨B1, hB1⟩ : ∃ B : ByteArray, ({ data := p.1.toArray } : ByteArray) = B := ⟨_, rfl⟩
 obtain ⟨B2, hB2⟩ : ∃ B : ByteArray, ({ data := q.1.toArray } : ByteArray) = B := ⟨_, rfl⟩
 rw [hB1, hB2] at hE
 rw [hB1, hB2]
 have hP := (Blk.new w 24 #[.string B1, .int .i64 p.2.1, .slice AL p.2.2.1.length cL, .slice AR p.2.2.2.length cR]).alloc (.cells #[.string B2, .int .i64 q.2.1, .slice AL' q.2.2.1.length cL', .slice AR' q.2.2.2.length cR'] 24)
 have hQ := Blk.new1 w (.cells #[.string B1, .int .i64 p.2.1, .slice AL p.2.2.1.length cL, .slice AR p.2.2.2.length cR] 24) 24 #[.string B2, .int .i64 q.2.1, .slice AL' q.2.2.1.length cL', .slice AR' q.2.2.2.length cR']
 have fP := hP.facts
 have fQ := hQ.facts
 have hn : (p.1 == q.1) = decide (p.1 = q.1) := by rw [Bool.eq_iff_iff]; simp
 rw [hn] at hE
 obtain ⟨n1, hn1⟩ : ∃ b, decide (p.1 = q.1) = b := ⟨_, rfl⟩
 obtain ⟨n3, hn3⟩ : ∃ b, decide (p.2.2.1 = q.2.2.1) = b := ⟨_, rfl⟩
 obtain ⟨n4, hn4⟩ : ∃ b, decide (p.2.2.2 = q.2.2.2) = b := ⟨_, rfl⟩
 rw [hn1] at hE HD
 rw [hn3] at c1 HD
 rw [hn4] at c2 HD
 clear hB1 hB2 hn hn1 hn3 hn4
 cases n1
 ·have HF : Hid (eqP p q = false) := by unfold Hid; rw [HD.out]; rfl
  clear HD
  go_enter Tryz.func49, Tryz.ntmps49
  go_wp2
  go_ret
  exact ⟨ret_bool HF.out.symm, by (repeat first|exact J0|assumption|(apply J1;assumption)|apply J2|apply J3|apply J4)⟩
 ·by_cases hw : p.2.1 = q.2.1
  ·have t2 : (p.2.1 == q.2.1) = true := by simpa using hw
   cases n3
   ·have HF : Hid (eqP p q = false) := by unfold Hid; rw [HD.out]; simp
    clear HD hw
    go_enter Tryz.func49, Tryz.ntmps49
    go_wp2_with fail
    refine (c1 _ (by (repeat first|exact J0|assumption|(apply J1;assumption)|apply J2|apply J3|apply J4))).mono ?_
    rintro e w2 ⟨rfl, hb2⟩
    replace hP := hP.below (show Below _ _ w2 by (repeat first|exact J0|assumption|(apply J1;assumption)|apply J2|apply J3|apply J4))
    replace fhP := hP.facts
    replace hQ := hQ.below (show Below _ _ w2 by (repeat first|exact J0|assumption|(apply J1;assumption)|apply J2|apply J3|apply J4))
    replace fhQ := hQ.facts
    go_wp2
    go_ret
    exact ⟨ret_bool HF.out.symm, by (repeat first|exact J0|assumption|(apply J1;assumption)|apply J2|apply J3|apply J4)⟩
   ·have HF : Hid (eqP p q = n4) := by unfold Hid; rw [HD.out, decide_eq_true hw]; simp
    clear HD hw
    go_enter Tryz.func49, Tryz.ntmps49
    go_wp2_with fail
    refine (c1 _ (by (repeat first|exact J0|assumption|(apply J1;assumption)|apply J2|apply J3|apply J4))).mono ?_
    rintro e w2 ⟨rfl, hb2⟩
    replace hP := hP.below (show Below _ _ w2 by (repeat first|exact J0|assumption|(apply J1;assumption)|apply J2|apply J3|apply J4))
    replace fhP := hP.facts
    replace hQ := hQ.below (show Below _ _ w2 by (repeat first|exact J0|assumption|(apply J1;assumption)|apply J2|apply J3|apply J4))
    replace fhQ := hQ.facts
    go_wp2_with fail
    refine (c2 _ (by (repeat first|exact J0|assumption|(apply J1;assumption)|apply J2|apply J3|apply J4))).mono ?_
    rintro e w3 ⟨rfl, hb3⟩
    replace hP := hP.below (show Below _ _ w3 by (repeat first|exact J0|assumption|(apply J1;assumption)|apply J2|apply J3|apply J4))
    replace fhP := hP.facts
    replace hQ := hQ.below (show Below _ _ w3 by (repeat first|exact J0|assumption|(apply J1;assumption)|apply J2|apply J3|apply J4))
    replace fhQ := hQ.facts
    go_wp2
    go_ret
    exact ⟨ret_bool HF.out.symm, by (repeat first|exact J0|assumption|(apply J1;assumption)|apply J2|apply J3|apply J4)⟩
  ·have t2 : (p.2.1 == q.2.1) = false := by simpa using hw
   have HF : Hid (eqP p q = false) := by unfold Hid; rw [HD.out, decide_eq_false hw]; simp
   clear HD hw
   go_enter Tryz.func49, Tryz.ntmps49
   go_wp2
   go_ret
   exact ⟨ret_bool HF.out.symm, by (repeat first|exact J0|assumption|(apply J1;assumption)|apply J2|apply J3|apply J4)⟩
end Go.Proofs.YtkkefahobjlagaaGreatDoor
