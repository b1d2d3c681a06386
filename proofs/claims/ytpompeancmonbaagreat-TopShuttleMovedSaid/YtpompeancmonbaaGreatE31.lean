/- The meshes of a net, walked. Conditions: the net has no error. -/
import Derived.Test.YtpompeancmonbaaGreatE08
import Derived.Test.YtpompeancmonbaaGreatE17
import Derived.Test.YtpompeancmonbaaGreatE23
import Derived.Test.YtpompeancmonbaaGreatE22
import Derived.Test.YtpompeancmonbaaGreatE24
import Derived.Test.YtpompeancmonbaaGreatE26
import Derived.Test.YtpompeancmonbaaGreatE14
import Derived.Test.YtpompeancmonbaaGreatE30
namespace Go.Proofs.YtpompeancmonbaaGreat
open Go.RowKit Go.ChangeMaps
set_option maxHeartbeats 4000000
set_option maxRecDepth 100000

theorem meshN_elem : Elem Tryz.prog 126 169 2 16 := ⟨by kernel_rfl, by kernel_rfl, by decide⟩
abbrev OwMN (base : Nat) := Own kc 2 base 169
theorem Sl.one_pair (w : World) (x y : Int) (t : TypeId) : SlK (w.alloc (.cells #[.int .i64 x, .int .i64 y] t)) (.slice (some ⟨w.heap.size, 0, none⟩) 1 1) [(x, y)] := by
  have hB := Blk.new w t #[.int .i64 x, .int .i64 y]
  refine ⟨_, 1, rfl, by simp, by simp [maxLen], fun i b hb => ?_⟩
  match i, hb with
  | 0, hb =>
    obtain rfl : (x, y) = b := by simpa using hb
    refine ⟨_, 0, rfl, hB.lt, fun j u hj => ?_⟩
    rw [hB.cell]
    simpa [kc] using hj
section
variable {ops : Array Oper} {rest : List Oper} {o : Oper} {a : Act} {Q : Exit → Act → World → Prop} {base : Nat} {W : World} {v : Value} {X Y : Int}
theorem wpList_appMN {l : List Knot} (hown : OwMN base W v l) {g : Nat} (hgd : o.guard = none) (s x : Operand) (ho : o.op = .call { callee := .builtin .append, args := #[s, x], argTypes := #[126, 126] })
    (hs : a.eval s = v) (hx : a.eval x = .slice (some ⟨g, 0, none⟩) 1 1) (hg : W.heap.size = g) (hlen : l.length ≤ 1000000) (hbase : base ≤ W.heap.size)
    (h : ∀ v' w', OwMN base w' v' (l ++ [(X, Y)]) → (W.alloc (.cells #[.int .i64 X, .int .i64 Y] 169)).grownBy w' v.ownBlock → wpList Tryz.prog ops Q rest (a.put o.dst v') w') :
    wpList Tryz.prog ops Q (o :: rest) a (W.alloc (.cells #[.int .i64 X, .int .i64 Y] 169)) := by
  subst hg
  exact wpList_app hgd meshN_elem kc_len kc_one s x ho base v _ l [(X, Y)] hs hx (hown.alloc _) (Sl.one_pair W X Y _) (by simp [maxLen]; omega) (by simp; omega) (by simp; omega) h
end
/-- the bar is the first one of a mesh -/
def isMesh (l : List Bar) (b : Bar) : Bool := decide (b.2.2 = -1) && hasb l (b.1, b.2.1, 1) && hasb l (b.1 - 1, b.2.1 + 1, 1) && hasb l (b.1 + 1, b.2.1 + 1, -1)
def meshLN (l m : List Bar) : List Knot := (m.filter (isMesh l)).map fun b => (b.1, b.2.1 + 1)
theorem meshL_take {l m : List Bar} {k : Nat} (hk : k < m.length) : meshLN l (m.take (k + 1)) = meshLN l (m.take k) ++ if isMesh l m[k] then [(m[k].1, m[k].2.1 + 1)] else [] := by
  unfold meshLN
  rw [List.take_succ_eq_append_getElem hk, List.filter_append, List.map_append]
  cases h : isMesh l m[k] <;> simp [h]
theorem meshL_len (l m : List Bar) : (meshLN l m).length ≤ m.length := by
  unfold meshLN
  rw [List.length_map]
  exact List.length_filter_le _ _
/-- the call returns a fresh row of meshes -/
def RMN (w : World) (l : List Knot) (e : Ending) (w' : World) : Prop := ∃ v, e = .returned v ∧ OwMN w.heap.size w' v l ∧ Below w.heap.size w w'
theorem nmeshes_any {v : Value} (l : List Bar) (w : World) (h : SlB w v l) (hok : NetOk l) : Calls Tryz.prog 70 #[v] w (RMN w (meshLN l l)) := by
  have hS := h
  obtain ⟨A, c, rfl, hlc, hcm, h⟩ := h
  have HK := Lib.hid hok
  have hlen := hok.len
  clear hok
  go_enter Tryz.func70, Tryz.ntmps70
  go_wp2
  go_loopw [3, 10] (fun o i wr => ∃ k : Nat, k ≤ l.length ∧ i = .int .i64 k ∧ OwMN w.heap.size wr o (meshLN l (l.take k)) ∧ Below w.heap.size w wr) (fun _ i _ => l.length - (intOf i).toNat)
  case atStart => exact ⟨0, Nat.zero_le _, rfl, Own.nil_, by (repeat (first | exact bl_refl | assumption | (apply bl_then; assumption) | refine bl_alloc ?_ _ | refine bl_drew ?_ | refine bl_drewN ?_ _))⟩
  case round =>
    obtain ⟨k, hk, rfl, hO, hbw⟩ := hrel
    obtain ⟨wo, rfl⟩ : ∃ x, x = wr := ⟨_, rfl⟩
    by_cases hlt : k < l.length
    · have hr := h.below hbw
      have hSr := hS.below hbw
      obtain ⟨b, off, rfl, hb, e0, e1, e2⟩ := hr.bar hlt
      have hbo := HK.out.ok _ (List.getElem_mem hlt)
      have HD := Lib.hid (meshL_take (l := l) hlt)
      have hll := meshL_len l (l.take k)
      have htk : (l.take k).length ≤ 4096 := by simp; omega
      obtain ⟨⟨x, y, s⟩, hx⟩ : ∃ z, l[k] = z := ⟨_, rfl⟩
      rw [hx] at e0 e1 e2 hbo HD
      simp only at e0 e1 e2 HD
      clear hx
      obtain ⟨q1, q2, q3⟩ := hbo
      simp only at q1 q2 q3
      have HI : Hid (isMesh l (x, y, s) = (decide (s = -1) && hasb l (x, y, 1) && hasb l (x - 1, y + 1, 1) && hasb l (x + 1, y + 1, -1))) := rfl
      go_upto_region 5 with fail
      obtain ⟨w1, hw1⟩ : ∃ X, wo.alloc (.cells #[.int .i64 x, .int .i64 y, .int .i64 s] 46) = X := ⟨_, rfl⟩
      have hN := Blk.new wo 46 #[.int .i64 x, .int .i64 y, .int .i64 s]
      have hb1 : Below wo.heap.size wo w1 := by rw [← hw1]; exact bl_alloc bl_refl _
      rw [hw1] at hN ⊢
      have fN := hN.facts
      have hS1 := hSr.below hb1
      have hO1 := hO.below hb1
      have hbw1 := bl_then hb1 hbw
      clear hw1 hO hSr e0 e1 e2 hr
      refine wp_region_ords [0, 1, 2, 3, 4, 5, 6] [] [] (by kernel_rfl) (by kernel_rfl) (fun d _ _ _ _ h => by cases d <;> exact h) ?_
      simp only [List.map_cons, List.map_nil, List.getD_cons_zero, List.getD_cons_succ]
      repeat (go_big_quiet_step (fail))
      refine wpQuiet_nil ?_
      refine wpMid_nil ?_
      go_upto_region 6 with fail
      have hNd := hN.drew
      go_cut [45] from 11 to 52 (fun s45 wx => s45 = .bool (isMesh l (x, y, s)) ∧ Below w1.heap.size w1 wx)
      case first =>
        obtain ⟨g1, h1⟩ : ∃ f, hasb l (x, y, 1) = f := ⟨_, rfl⟩
        obtain ⟨g2, h2⟩ : ∃ f, hasb l (x - 1, y + 1, 1) = f := ⟨_, rfl⟩
        obtain ⟨g3, h3⟩ : ∃ f, hasb l (x + 1, y + 1, -1) = f := ⟨_, rfl⟩
        have c1 := fun W (h : SlB W (.slice (some ⟨b, off, none⟩) l.length c) l) => nhas_any l x y 1 W h HK.out.sorted (by omega)
        have c2 := fun W (h : SlB W (.slice (some ⟨b, off, none⟩) l.length c) l) => nhas_any l (x - 1) (y + 1) 1 W h HK.out.sorted (by omega)
        have c3 := fun W (h : SlB W (.slice (some ⟨b, off, none⟩) l.length c) l) => nhas_any l (x + 1) (y + 1) (-1) W h HK.out.sorted (by omega)
        simp only [h1, h2, h3] at c1 c2 c3
        rw [h1, h2, h3] at HI
        clear h1 h2 h3 hO1
        rcases q3 with rfl | rfl
        · as_aux_lemma =>
            go_wp2_with fail
            go_meet
            case rel => exact ⟨by rw [HI.out]; rfl, by (repeat (first | exact bl_refl | assumption | (apply bl_then; assumption) | refine bl_alloc ?_ _ | refine bl_drew ?_ | refine bl_drewN ?_ _))⟩
        · cases g1
          · as_aux_lemma =>
              go_wp2_with fail
              refine (c1 _ (hS1.below (by (repeat (first | exact bl_refl | assumption | (apply bl_then; assumption) | refine bl_alloc ?_ _ | refine bl_drew ?_ | refine bl_drewN ?_ _))))).mono ?_
              rintro e w6 ⟨rfl, hb6⟩
              replace hN := hN.below (show Below _ _ w6 by (repeat (first | exact bl_refl | assumption | (apply bl_then; assumption) | refine bl_alloc ?_ _ | refine bl_drew ?_ | refine bl_drewN ?_ _)))
              replace fhN := hN.facts
              go_wp2_with fail
              go_meet
              case rel => exact ⟨by rw [HI.out]; rfl, by (repeat (first | exact bl_refl | assumption | (apply bl_then; assumption) | refine bl_alloc ?_ _ | refine bl_drew ?_ | refine bl_drewN ?_ _))⟩
          · cases g2
            · as_aux_lemma =>
                go_wp2_with fail
                refine (c1 _ (hS1.below (by (repeat (first | exact bl_refl | assumption | (apply bl_then; assumption) | refine bl_alloc ?_ _ | refine bl_drew ?_ | refine bl_drewN ?_ _))))).mono ?_
                rintro e w6 ⟨rfl, hb6⟩
                replace hN := hN.below (show Below _ _ w6 by (repeat (first | exact bl_refl | assumption | (apply bl_then; assumption) | refine bl_alloc ?_ _ | refine bl_drew ?_ | refine bl_drewN ?_ _)))
                replace fhN := hN.facts
                go_wp2_with fail
                refine (c2 _ (hS1.below (by (repeat (first | exact bl_refl | assumption | (apply bl_then; assumption) | refine bl_alloc ?_ _ | refine bl_drew ?_ | refine bl_drewN ?_ _))))).mono ?_
                rintro e w7 ⟨rfl, hb7⟩
                replace hN := hN.below (show Below _ _ w7 by (repeat (first | exact bl_refl | assumption | (apply bl_then; assumption) | refine bl_alloc ?_ _ | refine bl_drew ?_ | refine bl_drewN ?_ _)))
                replace fhN := hN.facts
                go_wp2_with fail
                go_meet
                case rel => exact ⟨by rw [HI.out]; rfl, by (repeat (first | exact bl_refl | assumption | (apply bl_then; assumption) | refine bl_alloc ?_ _ | refine bl_drew ?_ | refine bl_drewN ?_ _))⟩
            · cases g3
              · as_aux_lemma =>
                  go_wp2_with fail
                  refine (c1 _ (hS1.below (by (repeat (first | exact bl_refl | assumption | (apply bl_then; assumption) | refine bl_alloc ?_ _ | refine bl_drew ?_ | refine bl_drewN ?_ _))))).mono ?_
                  rintro e w6 ⟨rfl, hb6⟩
                  replace hN := hN.below (show Below _ _ w6 by (repeat (first | exact bl_refl | assumption | (apply bl_then; assumption) | refine bl_alloc ?_ _ | refine bl_drew ?_ | refine bl_drewN ?_ _)))
                  replace fhN := hN.facts
                  go_wp2_with fail
                  refine (c2 _ (hS1.below (by (repeat (first | exact bl_refl | assumption | (apply bl_then; assumption) | refine bl_alloc ?_ _ | refine bl_drew ?_ | refine bl_drewN ?_ _))))).mono ?_
                  rintro e w7 ⟨rfl, hb7⟩
                  replace hN := hN.below (show Below _ _ w7 by (repeat (first | exact bl_refl | assumption | (apply bl_then; assumption) | refine bl_alloc ?_ _ | refine bl_drew ?_ | refine bl_drewN ?_ _)))
                  replace fhN := hN.facts
                  go_wp2_with fail
                  refine (c3 _ (hS1.below (by (repeat (first | exact bl_refl | assumption | (apply bl_then; assumption) | refine bl_alloc ?_ _ | refine bl_drew ?_ | refine bl_drewN ?_ _))))).mono ?_
                  rintro e w8 ⟨rfl, hb8⟩
                  replace hN := hN.below (show Below _ _ w8 by (repeat (first | exact bl_refl | assumption | (apply bl_then; assumption) | refine bl_alloc ?_ _ | refine bl_drew ?_ | refine bl_drewN ?_ _)))
                  replace fhN := hN.facts
                  go_wp2_with fail
                  go_meet
                  case rel => exact ⟨by rw [HI.out]; rfl, by (repeat (first | exact bl_refl | assumption | (apply bl_then; assumption) | refine bl_alloc ?_ _ | refine bl_drew ?_ | refine bl_drewN ?_ _))⟩
              · as_aux_lemma =>
                  go_wp2_with fail
                  refine (c1 _ (hS1.below (by (repeat (first | exact bl_refl | assumption | (apply bl_then; assumption) | refine bl_alloc ?_ _ | refine bl_drew ?_ | refine bl_drewN ?_ _))))).mono ?_
                  rintro e w6 ⟨rfl, hb6⟩
                  replace hN := hN.below (show Below _ _ w6 by (repeat (first | exact bl_refl | assumption | (apply bl_then; assumption) | refine bl_alloc ?_ _ | refine bl_drew ?_ | refine bl_drewN ?_ _)))
                  replace fhN := hN.facts
                  go_wp2_with fail
                  refine (c2 _ (hS1.below (by (repeat (first | exact bl_refl | assumption | (apply bl_then; assumption) | refine bl_alloc ?_ _ | refine bl_drew ?_ | refine bl_drewN ?_ _))))).mono ?_
                  rintro e w7 ⟨rfl, hb7⟩
                  replace hN := hN.below (show Below _ _ w7 by (repeat (first | exact bl_refl | assumption | (apply bl_then; assumption) | refine bl_alloc ?_ _ | refine bl_drew ?_ | refine bl_drewN ?_ _)))
                  replace fhN := hN.facts
                  go_wp2_with fail
                  refine (c3 _ (hS1.below (by (repeat (first | exact bl_refl | assumption | (apply bl_then; assumption) | refine bl_alloc ?_ _ | refine bl_drew ?_ | refine bl_drewN ?_ _))))).mono ?_
                  rintro e w8 ⟨rfl, hb8⟩
                  replace hN := hN.below (show Below _ _ w8 by (repeat (first | exact bl_refl | assumption | (apply bl_then; assumption) | refine bl_alloc ?_ _ | refine bl_drew ?_ | refine bl_drewN ?_ _)))
                  replace fhN := hN.facts
                  go_wp2_with fail
                  go_meet
                  case rel => exact ⟨by rw [HI.out]; rfl, by (repeat (first | exact bl_refl | assumption | (apply bl_then; assumption) | refine bl_alloc ?_ _ | refine bl_drew ?_ | refine bl_drewN ?_ _))⟩
      case rest =>
        as_aux_lemma =>
          obtain ⟨rfl, hbc⟩ := hcut
          obtain ⟨w5, rfl⟩ : ∃ x, x = wc := ⟨_, rfl⟩
          have hO5 := hO1.below hbc
          have hbw5 := bl_then hbc hbw1
          obtain ⟨q, hq⟩ : ∃ q, isMesh l (x, y, s) = q := ⟨_, rfl⟩
          rw [hq] at HD ⊢
          clear hq HI fN hN hNd hO1 hS1
          cases q
          · have HD2 : Hid (meshLN l (l.take (k + 1)) = meshLN l (l.take k)) := by unfold Hid; rw [HD.out]; simp
            go_wp2
            go_roundw
            case rel => exact ⟨k + 1, by omega, by go_num, by rw [HD2.out]; exact hO5, hbw5⟩
            case measure => simp [intOf]; omega
          · have HD2 : Hid (meshLN l (l.take (k + 1)) = meshLN l (l.take k) ++ [(x, y + 1)]) := HD
            go_wp2_with (at_builtin; refine wpList_appMN hO5 rfl _ _ rfl rfl rfl (by simp) (by omega) hbw5.size ?_; intro v6 w6 hown6 hgr6)
            have hb6 := own_step hO5 hgr6 (by (repeat (first | exact bl_refl | assumption | (apply bl_then; assumption) | refine bl_alloc ?_ _ | refine bl_drew ?_ | refine bl_drewN ?_ _)))
            clear hgr6
            go_wp2
            go_roundw
            case rel => exact ⟨k + 1, by omega, by go_num, by rw [HD2.out]; exact hown6, hb6⟩
            case measure => simp [intOf]; omega
    · have HE : Hid (meshLN l l = meshLN l (l.take k)) := by unfold Hid; rw [List.take_of_length_le (by omega)]
      go_wp2
      go_ret
      exact ⟨_, rfl, by rw [HE.out]; exact hO, hbw⟩
end Go.Proofs.YtpompeancmonbaaGreat
