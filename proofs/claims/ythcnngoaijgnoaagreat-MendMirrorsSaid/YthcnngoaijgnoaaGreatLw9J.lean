/- The statement MendMirrors, walked. Conditions: slices that read as lists. -/
import Derived.Test.YthcnngoaijgnoaaGreatValJ
import Derived.Test.YthcnngoaijgnoaaGreatK10
import Derived.Test.YthcnngoaijgnoaaGreatPpdJ
import Derived.Test.YthcnngoaijgnoaaGreatK11
namespace Go.Proofs.YthcnngoaijgnoaaGreat
open Go.RowKit Go.ChangeMaps
set_option maxHeartbeats 16000000
set_option maxRecDepth 100000

theorem mirrored_any {v : Value} (l : List Bar) (w : World) (h : SlB w v l) (hk : ∀ b ∈ l, BarOk b) (hn : l.Nodup) (hlen : l.length ≤ 1000) : Calls Tryz.prog 31 #[v] w (RB w (mirL l)) := by
  obtain ⟨A, c, rfl, hlc, hcm, h⟩ := h
  have HK := Lib.hid hk
  have HN := Lib.hid hn
  clear hk hn
  go_enter Tryz.func31, Tryz.ntmps31
  go_wp2
  go_loopw [3, 8] (fun o i wr => ∃ k : Nat, k ≤ l.length ∧ i = .int .i64 k ∧ OwB w.heap.size wr o (mirL (l.take k)) ∧ Below w.heap.size w wr) (fun _ i _ => l.length - (intOf i).toNat)
  case atStart => exact ⟨0, Nat.zero_le _, rfl, Own.nil_, by (repeat (first | exact bl_refl | assumption | (apply bl_then; assumption) | refine bl_alloc ?_ _ | refine bl_drew ?_ | refine bl_drewN ?_ _))⟩
  case round =>
    obtain ⟨k, hk, rfl, hown, hbw⟩ := hrel
    by_cases hlt : k < l.length
    · have hr := h.below hbw
      obtain ⟨b, off, rfl, hb, e0, e1, e2⟩ := hr.bar hlt
      have hbo := HK.out _ (List.getElem_mem hlt)
      have HT := Lib.hid (mirL_take hlt)
      have htl : (mirL (l.take k)).length ≤ 1000 := by rw [mirL_len (HN.out.sublist (List.take_sublist _ _))]; simp; omega
      obtain ⟨⟨x, y, s⟩, hx⟩ : ∃ z, l[k] = z := ⟨_, rfl⟩
      rw [hx] at e0 e1 e2 hbo HT
      unfold BarOk at hbo
      simp only at e0 e1 e2 hbo
      obtain ⟨q1, q2, q3⟩ := hbo
      have hB1 := Blk.new wr 70 #[.int .i64 x, .int .i64 y, .int .i64 s]
      have fhB1 := hB1.facts
      have hq : -200000 ≤ x ∧ x ≤ 200000 ∧ -10 ≤ s ∧ s ≤ 10 := by omega
      go_wp2_with (go_at_call 73; refine (rwith_any (mirL (l.take k)) (-x) y (-s) _ ((hown.rd bc_len).below (by (repeat (first | exact bl_refl | assumption | (apply bl_then; assumption) | refine bl_alloc ?_ _ | refine bl_drew ?_ | refine bl_drewN ?_ _)))) (by omega)).mono ?_; rintro e w2 ⟨v2, rfl, hown2, hb2⟩)
      go_roundw
      case rel => exact ⟨k + 1, by omega, by go_num, by rw [HT.out]; exact hown2.base_mono (by have := hbw.size; simp; omega), by (repeat (first | exact bl_refl | assumption | (apply bl_then; assumption) | refine bl_alloc ?_ _ | refine bl_drew ?_ | refine bl_drewN ?_ _))⟩
      case measure => simp [intOf]; omega
    · have HE : Hid (l.take k = l) := List.take_of_length_le (by omega)
      obtain ⟨A2, c2, rfl⟩ := hown.shape
      go_wp2
      go_ret
      exact ⟨_, rfl, by rw [HE.out] at hown; rw [HE.out]; exact hown, hbw⟩
theorem eqin_mleg (d : Nat) (x y m x' y' m' : Int) (a b : ByteArray) (w : World) : (Op.equalIn (d + 3) 54 (.agg #[.int .i64 x, .int .i64 y, .int .i64 m, .string a]) (.agg #[.int .i64 x', .int .i64 y', .int .i64 m', .string b])).run Tryz.prog w = .ok (legB x y m a x' y' m' b) w := by
  rw [run_equalIn_struct w (d + 2) 54 _ _ (by kernel_rfl) (by kernel_rfl)]
  unfold legB beqK
  by_cases h1 : x = x' <;> by_cases h2 : y = y' <;> by_cases h3 : m = m' <;> by_cases h4 : a.toList = b.toList <;> simp [go_sem, h1, h2, h3, h4]
@[go_sem high] theorem eql_mleg (x y m x' y' m' : Int) (a b : ByteArray) (w : World) : (binOp .eql 54 (.agg #[.int .i64 x, .int .i64 y, .int .i64 m, .string a]) (.agg #[.int .i64 x', .int .i64 y', .int .i64 m', .string b])).run Tryz.prog w = .ok (.bool (legB x y m a x' y' m' b)) w := by
  simp only [binOp]
  simp [Op.equal, Op.maxDepth, eqin_mleg 9997]
/-- whether one of the first k is this one -/
def fndL (l : List LegT) (z : LegT) (k : Nat) : Bool := (l.take k).any fun y => legE y z
theorem fndL_succ {l : List LegT} {z : LegT} {k : Nat} (hk : k < l.length) : fndL l z (k + 1) = (fndL l z k || legE l[k] z) := by
  unfold fndL
  rw [List.take_succ_eq_append_getElem hk, List.any_append]
  simp
theorem fndL_all {l : List LegT} {z : LegT} (h : z ∈ l) : fndL l z l.length = true := by
  unfold fndL
  rw [List.take_length, List.any_eq_true]
  exact ⟨z, h, by simp [legE, legB, beqK]⟩
def mirF (N D : List Bar) (B : Nat) (i : Nat) (v : Value) (W : World) : Prop :=
  (i = 2 → OwB B W v (mirL N)) ∧ (i = 5 → OwB B W v (mirL D)) ∧ (i = 6 → ∃ a b, v = .agg #[a, b] ∧ OwB B W a (mirL N) ∧ OwB B W b (mirL D)) ∧
  (i = 7 → ∃ g, v = .pointer (some ⟨g, 0, none⟩) ∧ B ≤ g ∧ Blk W g 32 #[.slice none 0 0, .slice none 0 0])
theorem mirF_st (N D : List Bar) (B : Nat) : ∀ i v W W', mirF N D B i v W → Below W.heap.size W W' → mirF N D B i v W' := fun i v W W' h hb =>
  ⟨fun hi => (h.1 hi).below hb, fun hi => (h.2.1 hi).below hb, fun hi => by obtain ⟨a, b, h1, h2, h3⟩ := h.2.2.1 hi; exact ⟨a, b, h1, h2.below hb, h3.below hb⟩, fun hi => by obtain ⟨g, h1, h2, h3⟩ := h.2.2.2 hi; exact ⟨g, h1, h2, h3.below hb⟩⟩
theorem own_ne_blk {w : World} {g base : Nat} {v : Value} {l : List Bar} {cs : Array Value} (ho : OwB base w v l) (h : Blk w g 32 cs) : v.ownBlock ≠ some g := by
  rcases ho.2 with ⟨rfl, hn⟩ | ⟨g', cap, cur, rfl, _, hh, _⟩
  · simp [Value.ownBlock]
  · intro e
    obtain rfl : g' = g := by simpa [Value.ownBlock] using e
    unfold Blk at h
    rw [h] at hh
    simp at hh
theorem mendMirrors_any {v u : Value} (N D : List Bar) (w : World) (hN : SlB w v N) (hD : SlB w u D) : Calls Tryz.prog 4 #[.agg #[v, u]] w (RV w (.bool true)) := by
  have hN' := hN
  obtain ⟨A1, c1, rfl, _, _, hr1⟩ := hN'
  have hD' := hD
  obtain ⟨A2, c2, rfl, hlc2, hcm2, hr2⟩ := hD'
  clear hr1 hr2
  have hl2 : D.length ≤ maxLen := Nat.le_trans hlc2 hcm2
  unfold maxLen at hl2
  have hB := Blk.new w 24 #[.slice A1 N.length c1, .slice A2 D.length c2]
  have fhB := hB.facts
  have hvl := fun W (hN : SlB W (.slice A1 N.length c1) N) (hD : SlB W (.slice A2 D.length c2) D) => valid_any N D 24 W hN hD
  obtain ⟨qv, hqv⟩ : ∃ q, vldB N D 24 = q := ⟨_, rfl⟩
  simp only [hqv] at hvl
  cases qv
  · clear hqv
    go_enter Tryz.func4, Tryz.ntmps4
    go_wp2_with fail
    refine (hvl _ (hN.below (by (repeat (first | exact bl_refl | assumption | (apply bl_then; assumption) | refine bl_alloc ?_ _ | refine bl_drew ?_ | refine bl_drewN ?_ _)))) (hD.below (by (repeat (first | exact bl_refl | assumption | (apply bl_then; assumption) | refine bl_alloc ?_ _ | refine bl_drew ?_ | refine bl_drewN ?_ _))))).mono ?_
    rintro e w1 ⟨rfl, hb1⟩
    replace hB := hB.below (show Below _ _ w1 by (repeat (first | exact bl_refl | assumption | (apply bl_then; assumption) | refine bl_alloc ?_ _ | refine bl_drew ?_ | refine bl_drewN ?_ _)))
    replace fhB := hB.facts
    go_wp2_with fail
    refine (awake_any _).mono ?_
    rintro e w2 ⟨rfl, hb2⟩
    go_wp2
    go_ret
    exact ⟨rfl, by (repeat (first | exact bl_refl | assumption | (apply bl_then; assumption) | refine bl_alloc ?_ _ | refine bl_drew ?_ | refine bl_drewN ?_ _))⟩
  · obtain ⟨hs, hE⟩ := vld_ok hqv
    clear hqv
    by_cases h8 : D.length ≤ 8
    · have h8' : ((8 : Int) < (D.length : Int)) = False := by simp; omega
      have hok := torn_ok hE
      have hE2 := mir_tornE hE
      have hsD : ∀ b ∈ D, Sided b := fun b hb => (hok.dam.ok b hb).2.2
      have hmN : ∀ {v : Value} (w : World) (h : SlB w v N), Calls Tryz.prog 31 #[v] w (RB w (mirL N)) := fun w h => mirrored_any N w h (fun b hb => hok.net.ok b hb) hok.net.nodup (by omega)
      have hmD : ∀ {v : Value} (w : World) (h : SlB w v D), Calls Tryz.prog 31 #[v] w (RB w (mirL D)) := fun w h => mirrored_any D w h (fun b hb => hok.dam.ok b hb) hok.dam.nodup (by omega)
      have hrd : ∀ {v u : Value} (w : World) (hN : SlB w v N) (hD : SlB w u D), Calls Tryz.prog 17 #[.agg #[v, u]] w (RV w (.tuple #[.bool (rdyB D), .int .i64 0])) := fun w hN hD => by
        have := pready_any N D w hN hD
        rwa [show readyR N D = rdyB D by unfold readyR; rw [if_pos hE], hE] at this
      have hrm : ∀ {v u : Value} (w : World) (hN : SlB w v (mirL N)) (hD : SlB w u (mirL D)), Calls Tryz.prog 17 #[.agg #[v, u]] w (RV w (.tuple #[.bool (rdyB D), .int .i64 0])) := fun w hN hD => by
        have := pready_any (mirL N) (mirL D) w hN hD
        rwa [show readyR (mirL N) (mirL D) = rdyB D by unfold readyR; rw [if_pos hE2, mir_rdy hok.dam.sorted hsD], hE2] at this
      have hkd : ∀ {v u : Value} (w : World) (hN : SlB w v N) (hD : SlB w u D), Calls Tryz.prog 32 #[.agg #[v, u]] w (RLE w ((holeK D).map (legOf D)) 0) := fun w hN hD => by
        have := pkinds_any N D w hN hD
        rwa [show kindsL N D = (holeK D).map (legOf D) by unfold kindsL; rw [if_pos hE], hE] at this
      have hkm : ∀ {v u : Value} (w : World) (hN : SlB w v (mirL N)) (hD : SlB w u (mirL D)), Calls Tryz.prog 32 #[.agg #[v, u]] w (RLE w ((holeK (mirL D)).map (legOf (mirL D))) 0) := fun w hN hD => by
        have := pkinds_any (mirL N) (mirL D) w hN hD
        rwa [show kindsL (mirL N) (mirL D) = (holeK (mirL D)).map (legOf (mirL D)) by unfold kindsL; rw [if_pos hE2], hE2] at this
      have hlst := mir_least hE (by omega) 2 (by omega)
      have htd : ∀ {v u : Value} (w : World) (hN : SlB w v N) (hD : SlB w u D), Calls Tryz.prog 33 #[.agg #[v, u], .int .i64 2] w (RBE w (leastL N D 2) (leastE N D 2)) := fun w hN hD => trim_any N D 2 w hN hD
      have htm : ∀ {v u : Value} (w : World) (hN : SlB w v (mirL N)) (hD : SlB w u (mirL D)), Calls Tryz.prog 33 #[.agg #[v, u], .int .i64 2] w (RBE w (leastL (mirL N) (mirL D) 2) (leastE N D 2)) := fun w hN hD => by
        have := trim_any (mirL N) (mirL D) 2 w hN hD
        rwa [hlst.1] at this
      have hmem : ∀ x ∈ (holeK D).map (legOf D), (mirK x.1, x.2) ∈ (holeK (mirL D)).map (legOf (mirL D)) := fun x hx => by
        obtain ⟨k, hk, rfl⟩ := List.mem_map.1 hx
        exact mir_kinds hsD hk
      have hnear : ∀ x ∈ (holeK D).map (legOf D), -1000000 ≤ x.1.1 ∧ x.1.1 ≤ 1000000 := fun x hx => by
        obtain ⟨k, hk, rfl⟩ := List.mem_map.1 hx
        obtain ⟨a, ha, hm⟩ := legs_arm.1 ((holeK_mem hsD k).1 hk)
        have h1 := (arm_near ha (hok.dam.ok _ hm)).1
        have h2 := (arm_near ha (hok.dam.ok _ hm)).2.1
        show -1000000 ≤ k.1 ∧ k.1 ≤ 1000000
        omega
      have hlen2 : ((holeK D).map (legOf D)).length = ((holeK (mirL D)).map (legOf (mirL D))).length := by rw [List.length_map, List.length_map, mir_hole_len hsD]
      have hlenk : ((holeK D).map (legOf D)).length ≤ 100 := by rw [List.length_map]; have := hole_len (D := D); omega
      obtain ⟨q, hq⟩ : ∃ q, rdyB D = q := ⟨_, rfl⟩
      obtain ⟨ka, hka⟩ : ∃ k, (holeK D).map (legOf D) = k := ⟨_, rfl⟩
      obtain ⟨kb, hkb⟩ : ∃ k, (holeK (mirL D)).map (legOf (mirL D)) = k := ⟨_, rfl⟩
      obtain ⟨ta, hta⟩ : ∃ k, leastL N D 2 = k := ⟨_, rfl⟩
      obtain ⟨tb, htb⟩ : ∃ k, leastL (mirL N) (mirL D) 2 = k := ⟨_, rfl⟩
      obtain ⟨te, hte⟩ : ∃ k, leastE N D 2 = k := ⟨_, rfl⟩
      simp only [hq, hka, hkb, hta, htb, hte] at hrd hrm hkd hkm htd htm hmem hnear hlen2 hlenk hlst
      obtain ⟨_, htl, hte'⟩ := hlst
      have htl' : ((ta.length : Int) == (tb.length : Int)) = true := by simp [htl]
      have hlk' : ((ka.length : Int) != (kb.length : Int)) = false := by simp [hlen2]
      have HM := Lib.hid hmem
      have HNR := Lib.hid hnear
      clear hq hka hkb hta htb hte hok hE hE2 hsD hmem hnear htl
      go_enter Tryz.func4, Tryz.ntmps4
      go_wp2_with fail
      refine (hvl _ (hN.below (by (repeat (first | exact bl_refl | assumption | (apply bl_then; assumption) | refine bl_alloc ?_ _ | refine bl_drew ?_ | refine bl_drewN ?_ _)))) (hD.below (by (repeat (first | exact bl_refl | assumption | (apply bl_then; assumption) | refine bl_alloc ?_ _ | refine bl_drew ?_ | refine bl_drewN ?_ _))))).mono ?_
      rintro e w1 ⟨rfl, hb1⟩
      replace hB := hB.below (show Below _ _ w1 by (repeat (first | exact bl_refl | assumption | (apply bl_then; assumption) | refine bl_alloc ?_ _ | refine bl_drew ?_ | refine bl_drewN ?_ _)))
      replace fhB := hB.facts
      clear hvl
      have hbw1 : Below w.heap.size w w1 := by (repeat (first | exact bl_refl | assumption | (apply bl_then; assumption) | refine bl_alloc ?_ _ | refine bl_drew ?_ | refine bl_drewN ?_ _))
      have hN1 := hN.below hbw1
      have hD1 := hD.below hbw1
      go_wp2_with fail
      refine wp_region_facts (mirF N D w1.heap.size) [0, 1, 3, 4] [7] [2, 5, 6, 7] [8] (by decide) (by kernel_rfl) (by kernel_rfl) (fun d _ _ _ _ h => by cases d <;> exact h) (mirF_st N D w1.heap.size) ?_
      simp only [List.map_cons, List.map_nil, List.getD_cons_zero, List.getD_cons_succ]
      repeat (go_big_quiet_step (fail))
      refine wpQuiet_nil ⟨List.forall_mem_cons.2 ⟨?_, List.forall_mem_cons.2 ⟨?_, List.forall_mem_cons.2 ⟨?_, List.forall_mem_cons.2 ⟨?_, List.forall_mem_nil _⟩⟩⟩⟩, ?_⟩
      · intro vals W hbW hF
        refine facts_step (fun K hK => ?_)
        simp only [putAll, Array.getD_eq_getD_getElem?, List.getElem?_toArray, List.getElem?_cons_succ, List.getElem?_cons_zero, Option.getD_some, List.getD_cons_succ, List.getD_cons_zero, Act.put, List.setIfInBounds_toArray, List.set_cons_zero, List.set_cons_succ]
        go_simp
        refine (hmN _ (hN1.below (by (repeat (first | exact bl_refl | assumption | (apply bl_then; assumption) | refine bl_alloc ?_ _ | refine bl_drew ?_ | refine bl_drewN ?_ _))))).mono ?_
        rintro e w2 ⟨v2, rfl, hown2, hb2⟩
        exact hK _ _ _ rfl hb2 ⟨fun _ => hown2.base_mono (Below.size (by (repeat (first | exact bl_refl | assumption | (apply bl_then; assumption) | refine bl_alloc ?_ _ | refine bl_drew ?_ | refine bl_drewN ?_ _)))), fun h => by simp at h, fun h => by simp at h, fun h => by simp at h⟩ (fun h => by simp at h)
      · intro vals W hbW hF
        refine facts_step (fun K hK => ?_)
        simp only [putAll, Array.getD_eq_getD_getElem?, List.getElem?_toArray, List.getElem?_cons_succ, List.getElem?_cons_zero, Option.getD_some, List.getD_cons_succ, List.getD_cons_zero, Act.put, List.setIfInBounds_toArray, List.set_cons_zero, List.set_cons_succ]
        go_simp
        refine (hmD _ (hD1.below (by (repeat (first | exact bl_refl | assumption | (apply bl_then; assumption) | refine bl_alloc ?_ _ | refine bl_drew ?_ | refine bl_drewN ?_ _))))).mono ?_
        rintro e w2 ⟨v2, rfl, hown2, hb2⟩
        exact hK _ _ _ rfl hb2 ⟨fun h => by simp at h, fun _ => hown2.base_mono (Below.size (by (repeat (first | exact bl_refl | assumption | (apply bl_then; assumption) | refine bl_alloc ?_ _ | refine bl_drew ?_ | refine bl_drewN ?_ _)))), fun h => by simp at h, fun h => by simp at h⟩ (fun h => by simp at h)
      · intro vals W hbW hF
        have o2 := (hF 2 (mem_k (by kernel_rfl))).1 rfl
        have o5 := (hF 5 (mem_k (by kernel_rfl))).2.1 rfl
        obtain ⟨Ax, cx, ex⟩ := o2.shape
        obtain ⟨Ay, cy, ey⟩ := o5.shape
        rw [ex] at o2
        rw [ey] at o5
        refine facts_step (fun K hK => ?_)
        simp only [putAll, Array.getD_eq_getD_getElem?, List.getElem?_toArray, List.getElem?_cons_succ, List.getElem?_cons_zero, Option.getD_some, List.getD_cons_succ, List.getD_cons_zero, Act.put, List.setIfInBounds_toArray, List.set_cons_zero, List.set_cons_succ, ex, ey]
        go_simp
        exact hK (.agg #[.slice Ax (mirL N).length cx, .slice Ay (mirL D).length cy]) _ _ (by simp only [putAll, Array.getD_eq_getD_getElem?, List.getElem?_toArray, List.getElem?_cons_succ, List.getElem?_cons_zero, Option.getD_some, List.getD_cons_succ, List.getD_cons_zero, Act.put, List.setIfInBounds_toArray, List.set_cons_zero, List.set_cons_succ, ex, ey]) bl_refl ⟨fun h => by simp at h, fun h => by simp at h, fun _ => ⟨_, _, rfl, o2, o5⟩, fun h => by simp at h⟩ (fun h => by simp at h)
      · intro vals W hbW hF
        refine facts_step (fun K hK => ?_)
        simp only [putAll, Array.getD_eq_getD_getElem?, List.getElem?_toArray, List.getElem?_cons_succ, List.getElem?_cons_zero, Option.getD_some, List.getD_cons_succ, List.getD_cons_zero, Act.put, List.setIfInBounds_toArray, List.set_cons_zero, List.set_cons_succ]
        go_simp
        exact hK _ _ _ rfl (bl_alloc bl_refl _) ⟨fun h => by simp at h, fun h => by simp at h, fun h => by simp at h, fun _ => ⟨_, rfl, hbW.size, Blk.new _ _ _⟩⟩ (fun _ => ⟨_, rfl, Nat.le_refl _, by simp⟩)
      · intro vals W hbW hF hAp
        simp only [putAll, Array.getD_eq_getD_getElem?, List.getElem?_toArray, List.getElem?_cons_succ, List.getElem?_cons_zero, Option.getD_some, Act.put, List.setIfInBounds_toArray, List.set_cons_zero, List.set_cons_succ]
        obtain ⟨va, vb, e6, oa, ob⟩ := (hF 6 (by simp)).2.2.1 rfl
        obtain ⟨g, e7, hg, hG⟩ := (hF 7 (by simp)).2.2.2 rfl
        obtain ⟨Ax, cx, rfl⟩ := oa.shape
        obtain ⟨Ay, cy, rfl⟩ := ob.shape
        simp only [e6, e7]
        clear hF hAp e6 e7
        refine wpList_store_blk hG rfl _ _ _ rfl rfl rfl (by rfl) (by kernel_rfl) (by kernel_rfl) fun w5 hM hc5 => ?_
        have oa5 : SlB w5 _ _ := (oa.chg1 hc5 (own_ne_blk oa hG)).rd bc_len
        have ob5 : SlB w5 _ _ := (ob.chg1 hc5 (own_ne_blk ob hG)).rd bc_len
        have hbW1 : Below w1.heap.size w1 W := by (repeat (first | exact bl_refl | assumption | (apply bl_then; assumption) | refine bl_alloc ?_ _ | refine bl_drew ?_ | refine bl_drewN ?_ _))
        have hbw5 : Below w1.heap.size w1 w5 := chg_bl hbW1 hc5 hg
        replace hB := hB.below hbw5
        replace fhB := hB.facts
        have fhM := hM.facts
        have hN5 := hN1.below hbw5
        have hD5 := hD1.below hbw5
        have hbw := bl_then hbw5 hbw1
        clear hG hc5 hbW1 hbW oa ob hN1 hD1
        go_wp2_with fail
        refine (torn_any N D _ (hN5.below (by (repeat (first | exact bl_refl | assumption | (apply bl_then; assumption) | refine bl_alloc ?_ _ | refine bl_drew ?_ | refine bl_drewN ?_ _)))) (hD5.below (by (repeat (first | exact bl_refl | assumption | (apply bl_then; assumption) | refine bl_alloc ?_ _ | refine bl_drew ?_ | refine bl_drewN ?_ _)))) (by omega) (by omega)).mono ?_
        rintro e w6 ⟨v6, u6, rfl, hN6, hD6, hb6⟩
        replace hB := hB.below (show Below _ _ w6 by (repeat (first | exact bl_refl | assumption | (apply bl_then; assumption) | refine bl_alloc ?_ _ | refine bl_drew ?_ | refine bl_drewN ?_ _)))
        replace fhB := hB.facts
        replace hM := hM.below (show Below _ _ w6 by (repeat (first | exact bl_refl | assumption | (apply bl_then; assumption) | refine bl_alloc ?_ _ | refine bl_drew ?_ | refine bl_drewN ?_ _)))
        replace fhM := hM.facts
        go_wp2_with fail
        refine (hrd _ (hN6.rd bc_len) (hD6.rd bc_len)).mono ?_
        rintro e w7 ⟨rfl, hb7⟩
        replace hB := hB.below (show Below _ _ w7 by (repeat (first | exact bl_refl | assumption | (apply bl_then; assumption) | refine bl_alloc ?_ _ | refine bl_drew ?_ | refine bl_drewN ?_ _)))
        replace fhB := hB.facts
        replace hM := hM.below (show Below _ _ w7 by (repeat (first | exact bl_refl | assumption | (apply bl_then; assumption) | refine bl_alloc ?_ _ | refine bl_drew ?_ | refine bl_drewN ?_ _)))
        replace fhM := hM.facts
        go_wp2_with fail
        refine (hrm _ (oa5.below (by (repeat (first | exact bl_refl | assumption | (apply bl_then; assumption) | refine bl_alloc ?_ _ | refine bl_drew ?_ | refine bl_drewN ?_ _)))) (ob5.below (by (repeat (first | exact bl_refl | assumption | (apply bl_then; assumption) | refine bl_alloc ?_ _ | refine bl_drew ?_ | refine bl_drewN ?_ _))))).mono ?_
        rintro e w8 ⟨rfl, hb8⟩
        replace hB := hB.below (show Below _ _ w8 by (repeat (first | exact bl_refl | assumption | (apply bl_then; assumption) | refine bl_alloc ?_ _ | refine bl_drew ?_ | refine bl_drewN ?_ _)))
        replace fhB := hB.facts
        replace hM := hM.below (show Below _ _ w8 by (repeat (first | exact bl_refl | assumption | (apply bl_then; assumption) | refine bl_alloc ?_ _ | refine bl_drew ?_ | refine bl_drewN ?_ _)))
        replace fhM := hM.facts
        go_wp2_with fail
        refine (torn_any N D _ (hN5.below (by (repeat (first | exact bl_refl | assumption | (apply bl_then; assumption) | refine bl_alloc ?_ _ | refine bl_drew ?_ | refine bl_drewN ?_ _)))) (hD5.below (by (repeat (first | exact bl_refl | assumption | (apply bl_then; assumption) | refine bl_alloc ?_ _ | refine bl_drew ?_ | refine bl_drewN ?_ _)))) (by omega) (by omega)).mono ?_
        rintro e w9 ⟨v9, u9, rfl, hN9, hD9, hb9⟩
        replace hB := hB.below (show Below _ _ w9 by (repeat (first | exact bl_refl | assumption | (apply bl_then; assumption) | refine bl_alloc ?_ _ | refine bl_drew ?_ | refine bl_drewN ?_ _)))
        replace fhB := hB.facts
        replace hM := hM.below (show Below _ _ w9 by (repeat (first | exact bl_refl | assumption | (apply bl_then; assumption) | refine bl_alloc ?_ _ | refine bl_drew ?_ | refine bl_drewN ?_ _)))
        replace fhM := hM.facts
        go_wp2_with fail
        refine (hkd _ (hN9.rd bc_len) (hD9.rd bc_len)).mono ?_
        rintro e w10 ⟨v10, rfl, hL10, hb10⟩
        replace hB := hB.below (show Below _ _ w10 by (repeat (first | exact bl_refl | assumption | (apply bl_then; assumption) | refine bl_alloc ?_ _ | refine bl_drew ?_ | refine bl_drewN ?_ _)))
        replace fhB := hB.facts
        replace hM := hM.below (show Below _ _ w10 by (repeat (first | exact bl_refl | assumption | (apply bl_then; assumption) | refine bl_alloc ?_ _ | refine bl_drew ?_ | refine bl_drewN ?_ _)))
        replace fhM := hM.facts
        obtain ⟨A10, c10, rfl⟩ := hL10.shape
        go_wp2_with fail
        refine (hkm _ (oa5.below (by (repeat (first | exact bl_refl | assumption | (apply bl_then; assumption) | refine bl_alloc ?_ _ | refine bl_drew ?_ | refine bl_drewN ?_ _)))) (ob5.below (by (repeat (first | exact bl_refl | assumption | (apply bl_then; assumption) | refine bl_alloc ?_ _ | refine bl_drew ?_ | refine bl_drewN ?_ _))))).mono ?_
        rintro e w11 ⟨v11, rfl, hL11, hb11⟩
        replace hB := hB.below (show Below _ _ w11 by (repeat (first | exact bl_refl | assumption | (apply bl_then; assumption) | refine bl_alloc ?_ _ | refine bl_drew ?_ | refine bl_drewN ?_ _)))
        replace fhB := hB.facts
        replace hM := hM.below (show Below _ _ w11 by (repeat (first | exact bl_refl | assumption | (apply bl_then; assumption) | refine bl_alloc ?_ _ | refine bl_drew ?_ | refine bl_drewN ?_ _)))
        replace fhM := hM.facts
        obtain ⟨A11, c11, rfl⟩ := hL11.shape
        have hLa : SlL w11 _ _ := (hL10.rd lc_len).below (show Below _ _ w11 by (repeat (first | exact bl_refl | assumption | (apply bl_then; assumption) | refine bl_alloc ?_ _ | refine bl_drew ?_ | refine bl_drewN ?_ _)))
        have hLb : SlL w11 _ _ := hL11.rd lc_len
        have hN11 := hN5.below (show Below _ _ w11 by (repeat (first | exact bl_refl | assumption | (apply bl_then; assumption) | refine bl_alloc ?_ _ | refine bl_drew ?_ | refine bl_drewN ?_ _)))
        have hD11 := hD5.below (show Below _ _ w11 by (repeat (first | exact bl_refl | assumption | (apply bl_then; assumption) | refine bl_alloc ?_ _ | refine bl_drew ?_ | refine bl_drewN ?_ _)))
        have oa11 := oa5.below (show Below _ _ w11 by (repeat (first | exact bl_refl | assumption | (apply bl_then; assumption) | refine bl_alloc ?_ _ | refine bl_drew ?_ | refine bl_drewN ?_ _)))
        have ob11 := ob5.below (show Below _ _ w11 by (repeat (first | exact bl_refl | assumption | (apply bl_then; assumption) | refine bl_alloc ?_ _ | refine bl_drew ?_ | refine bl_drewN ?_ _)))
        have hbw11 : Below w.heap.size w w11 := by (repeat (first | exact bl_refl | assumption | (apply bl_then; assumption) | refine bl_alloc ?_ _ | refine bl_drew ?_ | refine bl_drewN ?_ _))
        obtain ⟨A10', c10', e10, _, _, hra⟩ := hLa
        obtain ⟨rfl, rfl⟩ : A10 = A10' ∧ c10 = c10' := by simpa using e10
        obtain ⟨A11', c11', e11, _, _, hrb⟩ := hLb
        obtain ⟨rfl, rfl⟩ : A11 = A11' ∧ c11 = c11' := by simpa using e11
        clear e10 e11 hN6 hD6 hb6 hb7 hb8 hN9 hD9 hb9 hL10 hb10 hL11 hb11 oa5 ob5 hN5 hD5 hbw5 hbw hrd hrm hkd hkm
        have hqq : (q != q) = false := by simp
        go_wp2_with fail
        go_loopw [88] (fun i wr => ∃ k : Nat, k ≤ ka.length ∧ i = .int .i64 k ∧ Below w11.heap.size w11 wr) (fun i _ => ka.length - (intOf i).toNat)
        case atStart => exact ⟨0, Nat.zero_le _, rfl, by (repeat (first | exact bl_refl | assumption | (apply bl_then; assumption) | refine bl_alloc ?_ _ | refine bl_drew ?_ | refine bl_drewN ?_ _))⟩
        case round =>
          obtain ⟨wo, rfl⟩ : ∃ wo, wo = wr := ⟨_, rfl⟩
          obtain ⟨k, hk, rfl, hbr⟩ := hrel
          replace hB := hB.below hbr
          replace fhB := hB.facts
          replace hM := hM.below hbr
          replace fhM := hM.facts
          by_cases hlt : k < ka.length
          · have hr := hra.below hbr
            have hrb' := hrb.below hbr
            obtain ⟨b, off, rfl, hb, e0, e1, e2, e3⟩ := hr.leg hlt
            have HMK := HM.out _ (List.getElem_mem hlt)
            have hnr := HNR.out _ (List.getElem_mem hlt)
            obtain ⟨⟨⟨x, y⟩, c, i⟩, hx⟩ : ∃ z, ka[k] = z := ⟨_, rfl⟩
            rw [hx] at e0 e1 e2 e3 HMK hnr
            simp only [mirK] at e0 e1 e2 e3 HMK hnr
            clear hx
            have HF := Lib.hid (fndL_all HMK)
            clear HMK
            have hX := Blk.new wo 54 #[.int .i64 x, .int .i64 y, .int .i64 c, kstr i]
            have fX := hX.facts
            have hrb2 := hrb'.below (bl_alloc bl_refl (.cells #[.int .i64 x, .int .i64 y, .int .i64 c, kstr i] 54))
            go_wp2_with fail
            go_loopw [14, 94] (fun f j wq => ∃ k2 : Nat, k2 ≤ kb.length ∧ j = .int .i64 k2 ∧ f = .bool (fndL kb ((-x, y), c, i) k2) ∧ Below (wo.alloc (.cells #[.int .i64 x, .int .i64 y, .int .i64 c, kstr i] 54)).heap.size (wo.alloc (.cells #[.int .i64 x, .int .i64 y, .int .i64 c, kstr i] 54)) wq) (fun _ j _ => kb.length - (intOf j).toNat)
            case atStart => exact ⟨0, Nat.zero_le _, rfl, rfl, bl_refl⟩
            case round =>
              obtain ⟨k2, hk2, rfl, rfl, hbq⟩ := hrel
              replace hX := hX.below hbq
              replace fX := hX.facts
              by_cases hlt2 : k2 < kb.length
              · have hrq := hrb2.below hbq
                obtain ⟨b', off', rfl, hb', f0, f1, f2, f3⟩ := hrq.leg hlt2
                have HFS := fndL_succ (z := ((-x, y), c, i)) hlt2
                obtain ⟨⟨⟨x', y'⟩, c', i'⟩, hx'⟩ : ∃ z, kb[k2] = z := ⟨_, rfl⟩
                rw [hx'] at f0 f1 f2 f3 HFS
                simp only at f0 f1 f2 f3
                obtain ⟨f, hf⟩ : ∃ f, fndL kb ((-x, y), c, i) k2 = f := ⟨_, rfl⟩
                rw [hf] at HFS
                rw [hf]
                have HFS' := Lib.hid HFS
                clear HFS hf hx'
                have hY := Blk.new wr 54 #[.int .i64 x', .int .i64 y', .int .i64 c', kstr i']
                have fY := hY.facts
                have hX2 := hX.alloc (.cells #[.int .i64 x', .int .i64 y', .int .i64 c', kstr i'] 54)
                have fX2 := hX2.facts
                cases f
                all_goals
                  go_wp2_with fail
                  go_roundw
                  case rel => exact ⟨k2 + 1, by omega, by go_num, by rw [HFS'.out]; simp [legE], by (repeat (first | exact bl_refl | assumption | (apply bl_then; assumption) | refine bl_alloc ?_ _ | refine bl_drew ?_ | refine bl_drewN ?_ _))⟩
                  case measure => simp [intOf]; omega
              · obtain rfl : k2 = kb.length := by omega
                rw [HF.out]
                go_wp2_with fail
                go_roundw
                case rel => exact ⟨k + 1, by omega, by go_num, by (repeat (first | exact bl_refl | assumption | (apply bl_then; assumption) | refine bl_alloc ?_ _ | refine bl_drew ?_ | refine bl_drewN ?_ _))⟩
                case measure => simp [intOf]; omega
          · have hbwr : Below w.heap.size w wo := bl_then hbr hbw11
            have hN12 := hN11.below hbr
            have hD12 := hD11.below hbr
            have oa12 := oa11.below hbr
            have ob12 := ob11.below hbr
            clear hbr hra hrb
            go_wp2_with fail
            refine (torn_any N D _ (hN12.below (by (repeat (first | exact bl_refl | assumption | (apply bl_then; assumption) | refine bl_alloc ?_ _ | refine bl_drew ?_ | refine bl_drewN ?_ _)))) (hD12.below (by (repeat (first | exact bl_refl | assumption | (apply bl_then; assumption) | refine bl_alloc ?_ _ | refine bl_drew ?_ | refine bl_drewN ?_ _)))) (by omega) (by omega)).mono ?_
            rintro e w12 ⟨v12, u12, rfl, hN13, hD13, hb12⟩
            replace hB := hB.below (show Below _ _ w12 by (repeat (first | exact bl_refl | assumption | (apply bl_then; assumption) | refine bl_alloc ?_ _ | refine bl_drew ?_ | refine bl_drewN ?_ _)))
            replace fhB := hB.facts
            replace hM := hM.below (show Below _ _ w12 by (repeat (first | exact bl_refl | assumption | (apply bl_then; assumption) | refine bl_alloc ?_ _ | refine bl_drew ?_ | refine bl_drewN ?_ _)))
            replace fhM := hM.facts
            go_wp2_with fail
            refine (htd _ (hN13.rd bc_len) (hD13.rd bc_len)).mono ?_
            rintro e w13 ⟨v13, rfl, hT13, hb13⟩
            replace hB := hB.below (show Below _ _ w13 by (repeat (first | exact bl_refl | assumption | (apply bl_then; assumption) | refine bl_alloc ?_ _ | refine bl_drew ?_ | refine bl_drewN ?_ _)))
            replace fhB := hB.facts
            replace hM := hM.below (show Below _ _ w13 by (repeat (first | exact bl_refl | assumption | (apply bl_then; assumption) | refine bl_alloc ?_ _ | refine bl_drew ?_ | refine bl_drewN ?_ _)))
            replace fhM := hM.facts
            obtain ⟨A13, c13, rfl⟩ := hT13.shape
            go_wp2_with fail
            refine (htm _ (oa12.below (by (repeat (first | exact bl_refl | assumption | (apply bl_then; assumption) | refine bl_alloc ?_ _ | refine bl_drew ?_ | refine bl_drewN ?_ _)))) (ob12.below (by (repeat (first | exact bl_refl | assumption | (apply bl_then; assumption) | refine bl_alloc ?_ _ | refine bl_drew ?_ | refine bl_drewN ?_ _))))).mono ?_
            rintro e w14 ⟨v14, rfl, hT14, hb14⟩
            replace hB := hB.below (show Below _ _ w14 by (repeat (first | exact bl_refl | assumption | (apply bl_then; assumption) | refine bl_alloc ?_ _ | refine bl_drew ?_ | refine bl_drewN ?_ _)))
            replace fhB := hB.facts
            replace hM := hM.below (show Below _ _ w14 by (repeat (first | exact bl_refl | assumption | (apply bl_then; assumption) | refine bl_alloc ?_ _ | refine bl_drew ?_ | refine bl_drewN ?_ _)))
            replace fhM := hM.facts
            obtain ⟨A14, c14, rfl⟩ := hT14.shape
            rcases hte' with rfl | rfl
            all_goals
              go_wp2_with fail
              refine (awake_any _).mono ?_
              rintro e w15 ⟨rfl, hb15⟩
              go_wp2
              go_ret
              exact ⟨rfl, by (repeat (first | exact bl_refl | assumption | (apply bl_then; assumption) | refine bl_alloc ?_ _ | refine bl_drew ?_ | refine bl_drewN ?_ _))⟩
    · have h8' : ((8 : Int) < (D.length : Int)) = True := by simp; omega
      go_enter Tryz.func4, Tryz.ntmps4
      go_wp2_with fail
      refine (hvl _ (hN.below (by (repeat (first | exact bl_refl | assumption | (apply bl_then; assumption) | refine bl_alloc ?_ _ | refine bl_drew ?_ | refine bl_drewN ?_ _)))) (hD.below (by (repeat (first | exact bl_refl | assumption | (apply bl_then; assumption) | refine bl_alloc ?_ _ | refine bl_drew ?_ | refine bl_drewN ?_ _))))).mono ?_
      rintro e w1 ⟨rfl, hb1⟩
      replace hB := hB.below (show Below _ _ w1 by (repeat (first | exact bl_refl | assumption | (apply bl_then; assumption) | refine bl_alloc ?_ _ | refine bl_drew ?_ | refine bl_drewN ?_ _)))
      replace fhB := hB.facts
      go_wp2_with fail
      refine (awake_any _).mono ?_
      rintro e w2 ⟨rfl, hb2⟩
      go_wp2
      go_ret
      exact ⟨rfl, by (repeat (first | exact bl_refl | assumption | (apply bl_then; assumption) | refine bl_alloc ?_ _ | refine bl_drew ?_ | refine bl_drewN ?_ _))⟩
end Go.Proofs.YthcnngoaijgnoaaGreat
