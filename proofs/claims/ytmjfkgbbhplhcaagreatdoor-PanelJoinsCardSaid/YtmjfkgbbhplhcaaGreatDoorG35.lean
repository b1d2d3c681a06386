/- The reader of panels: finish, walked. Conditions: none. -/
import Derived.Test.YtmjfkgbbhplhcaaGreatDoorG32
import Derived.Test.YtmjfkgbbhplhcaaGreatDoorG34
namespace Go.Proofs.YtmjfkgbbhplhcaaGreatDoor
open Go.RowKit Go.ChangeMaps
set_option maxHeartbeats 4000000
set_option maxRecDepth 100000

attribute [local go_sem] Oper.semAt_some
/-! ## finish -/
def finE (W : List Str) (l : List Pan) (p : Pan) : Int := if W.length ≠ 1 then 25 else firstI [panE p, whenI (agnB l p.1) 9]
theorem finish_any (base Br n : Nat) (W : List Str) (A : Option Addr) (c : Nat) (l : List Pan) (p : Pan) (st : Str) (w : World) (hr : RdrAt base Br n w l (some p) st) (hn : n + 1 ≤ 20000) :
    Calls Tryz.prog 118 #[.pointer (some ⟨Br, 0, none⟩), .slice A W.length c] w (fun e w' => e = .returned (.int .i64 (finE W l p)) ∧ Wrt base Br w w' ∧ (finE W l p = 0 → RdrAt base Br (n + 1) w' (l ++ [p]) none st)) := by
  by_cases hW : W.length = 1
  · rw [hW]
    obtain ⟨xs, vP, ⟨nm, wd, ⟨La, Ln, Lc⟩, ⟨Ra, Rn, Rc⟩⟩, wb, hBr, hP, hxs, hC, hbz, ⟨nr, n1, n2, m1, m2, oL, oLt, oR, oRn⟩, h5, h6, h7, h8⟩ := hr
    simp only at m1 m2
    subst m1 m2
    obtain ⟨h71, _, _, _⟩ := h7 p rfl
    have hxs0 := hxs.to hC.own
    have hxl := hxs.len
    have hzC := hC.size
    have HE : Hid (finE W l p = firstI [panE p, whenI (agnB l p.1) 9]) := by unfold Hid finE; rw [if_neg (by simp [hW])]
    obtain ⟨E, hEE⟩ : ∃ E, finE W l p = E := ⟨_, rfl⟩
    rw [hEE] at HE ⊢
    have hck := fun W (hb : Below w.heap.size w W) => checkPanel_any (vL := slV (La, Ln, Lc)) (vR := slV (Ra, Rn, Rc)) p W (by omega) ((oL.rd ec_len).below hb) ((oR.rd ec_len).below hb)
    obtain ⟨PA, Pc, rfl⟩ := hP.shape
    have hag := fun W (hb : Below w.heap.size w W) => again_any xs l PA Pc (p.1, p.2.1, (La, Ln, Lc), (Ra, Rn, Rc)) W (hxs0.at_.below hb) (Sl.rd_ ((hP.rd pnc_len).below hb)) (by omega)
    have hf2 : ∀ A c' W, Rd ic 1 W A [panE p, whenI (agnB l p.1) 9] → Calls Tryz.prog 42 #[.slice A 2 c'] W (RV W (.int .i64 E)) := fun A c' W hr => by
      rw [HE.out]
      exact pfirst_any [panE p, whenI (agnB l p.1) 9] A c' W (by simp [maxLen]) hr
    obtain ⟨E1, hE1⟩ : ∃ E, panE p = E := ⟨_, rfl⟩
    obtain ⟨q, hq⟩ : ∃ E, agnB l p.1 = E := ⟨_, rfl⟩
    simp only [sV, slV] at hck hag hBr oL oR
    rw [hE1] at hck hf2
    rw [hq] at hag hf2
    have fB := hBr.facts
    have hx2 : xs.length ≤ 20000 := by omega
    clear hEE hE1 hq HE hW h7 hxl
    go_enter Tryz.func118, Tryz.ntmps118
    go_upto_region 3 with fail
    refine wp_region_ords [0, 1, 2, 3, 5, 6, 7, 8, 9, 10, 11, 12] [(4, false)] [13, 14, 15, 16, 17] (by kernel_rfl) (by kernel_rfl) (fun d _ _ _ _ h => by cases d <;> exact h) ?_
    simp only [List.map_cons, List.map_nil, List.getD_cons_zero, List.getD_cons_succ]
    repeat (go_big_quiet_step (fail))
    refine wpQuiet_nil ?_
    refine wpMid_run rfl (fun K hK => ?_)
    go_simp
    refine (hck _ (by (repeat (first | exact bl_refl | assumption | (apply bl_then; assumption) | refine bl_alloc ?_ _ | refine bl_drew ?_ | refine bl_drewN ?_ _)))).mono ?_
    rintro e w2 ⟨rfl, hb2⟩
    refine hK _ _ (by (repeat (first | exact bl_refl | assumption | (apply bl_then; assumption) | refine bl_alloc ?_ _ | refine bl_drew ?_ | refine bl_drewN ?_ _))) ?_
    clear hK K
    have hBr_w2 := hBr.below (show Below _ _ w2 by (repeat (first | exact bl_refl | assumption | (apply bl_then; assumption) | refine bl_alloc ?_ _ | refine bl_drew ?_ | refine bl_drewN ?_ _)))
    have fhBr_w2 := hBr_w2.facts
    refine wpMid_nil ?_
    go_wp2_with (first | (go_at_call 110; refine (hag _ (by (repeat (first | exact bl_refl | assumption | (apply bl_then; assumption) | refine bl_alloc ?_ _ | refine bl_drew ?_ | refine bl_drewN ?_ _)))).mono ?_; rintro e w3 ⟨rfl, hb3⟩) | (go_at_call 85; refine (pwhen_any _ _ _).mono ?_; rintro e w4 ⟨rfl, hb4⟩))
    go_must (refine (hf2 _ _ _ (Rd.ints2 (by simp) (by go_simp) (by go_simp))).mono ?_)
    rintro e w5 ⟨rfl, hb5⟩
    have hb25 : Below w.heap.size w w5 := by (repeat (first | exact bl_refl | assumption | (apply bl_then; assumption) | refine bl_alloc ?_ _ | refine bl_drew ?_ | refine bl_drewN ?_ _))
    by_cases hz : E = 0
    · subst hz
      have hB4 := hBr.below hb25
      have hP4 := hP.below hb25
      have oL4 := oL.below hb25
      have oR4 := oR.below hb25
      have hx4 := hxs0.below hb25
      have hz4 := hb25.size
      have fB4 := hB4.facts
      clear hck hag hf2 hb2 hb3 hb4 hb5 fB
      go_upto_region 6 with fail
      have hBa := (hB4.drew).alloc (.cells #[.string ⟨p.1.toArray⟩, .int .i64 p.2.1, .slice La Ln Lc, .slice Ra Rn Rc] 29)
      have hPa := (hP4.drew).alloc (.cells #[.string ⟨p.1.toArray⟩, .int .i64 p.2.1, .slice La Ln Lc, .slice Ra Rn Rc] 29)
      have oLa := (oL4.drew).alloc (.cells #[.string ⟨p.1.toArray⟩, .int .i64 p.2.1, .slice La Ln Lc, .slice Ra Rn Rc] 29)
      have oRa := (oR4.drew).alloc (.cells #[.string ⟨p.1.toArray⟩, .int .i64 p.2.1, .slice La Ln Lc, .slice Ra Rn Rc] 29)
      have hba : Below w5.heap.size w5 (w5.drew.alloc (.cells #[.string ⟨p.1.toArray⟩, .int .i64 p.2.1, .slice La Ln Lc, .slice Ra Rn Rc] 29)) := bl_alloc (bl_drew bl_refl) _
      have hxa := hx4.below hba
      have hua : Sl pnc 4 (w5.drew.alloc (.cells #[.string ⟨p.1.toArray⟩, .int .i64 p.2.1, .slice La Ln Lc, .slice Ra Rn Rc] 29)) (.slice (some ⟨w5.heap.size, 0, none⟩) 1 1) [(p.1, p.2.1, (La, Ln, Lc), (Ra, Rn, Rc))] := Sl.oneG w5.drew _ (p.1, p.2.1, (La, Ln, Lc), (Ra, Rn, Rc)) _ rfl
      have hza := hba.size
      obtain ⟨P0, hP0⟩ : ∃ P0 : World → Prop, P0 = fun u => ∀ i, u.cell? ⟨Br, i, none⟩ = (#[.slice PA xs.length Pc, .string ⟨p.1.toArray⟩, .int .i64 p.2.1, .slice La Ln Lc, .slice Ra Rn Rc, .string ⟨st.toArray⟩] : Array Value)[i]? := ⟨_, rfl⟩
      have hPm : ∀ u, Blk u Br 133 #[.slice PA xs.length Pc, .string ⟨p.1.toArray⟩, .int .i64 p.2.1, .slice La Ln Lc, .slice Ra Rn Rc, .string ⟨st.toArray⟩] → P0 u := fun u h1 => by
        rw [hP0]
        exact h1.cell
      have hPi : ∀ u, P0 u → ∀ i, u.cell? ⟨Br, i, none⟩ = (#[.slice PA xs.length Pc, .string ⟨p.1.toArray⟩, .int .i64 p.2.1, .slice La Ln Lc, .slice Ra Rn Rc, .string ⟨st.toArray⟩] : Array Value)[i]? := fun u h => by rw [hP0] at h; exact h
      have hp0 : P0 w5.drew := hPm _ hB4.drew
      have hp1 := hPm _ hBa
      have hcb0 : ∀ u : BelM base w5 P0, u.val.cell? ⟨Br, 0, none⟩ = some (.slice PA xs.length Pc) := fun u => hPi _ u.has 0
      have hcb1 : ∀ u : BelM base w5 P0, u.val.cell? ⟨Br, 1, none⟩ = some (.string ⟨p.1.toArray⟩) := fun u => hPi _ u.has 1
      have hcb2 : ∀ u : BelM base w5 P0, u.val.cell? ⟨Br, 2, none⟩ = some (.int .i64 p.2.1) := fun u => hPi _ u.has 2
      have hcb3 : ∀ u : BelM base w5 P0, u.val.cell? ⟨Br, 3, none⟩ = some (.slice La Ln Lc) := fun u => hPi _ u.has 3
      have hcb4 : ∀ u : BelM base w5 P0, u.val.cell? ⟨Br, 4, none⟩ = some (.slice Ra Rn Rc) := fun u => hPi _ u.has 4
      have hst0 : Below base w5 (w5.drew.alloc (.cells #[.string ⟨p.1.toArray⟩, .int .i64 p.2.1, .slice La Ln Lc, .slice Ra Rn Rc] 29)) := hba.mono (by omega)
      haveI hne' : Nonempty (BelM base w5 P0) := BelM.none_empty hst0 hp1
      clear hP0 hPi
      refine wp_region_ordm (base) (P0) [0, 1, 2, 3, 4, 5, 6, 7, 8] [(9, false), (10, false)] [11, 12, 13] (by kernel_rfl) (by kernel_rfl) (fun d _ _ _ _ h => by cases d <;> exact h) (hp0) ?_
      simp only [List.map_cons, List.map_nil, List.getD_cons_zero, List.getD_cons_succ]
      repeat (go_big_quiet_step (fail))
      refine wpQuiet_nil ?_
      refine wpMid_runm rfl (fun K hK => ?_)
      go_simp
      refine hK _ _ (hst0) (hp1) ?_
      clear hK K
      clear hcb0 hcb1 hcb2 hcb3 hcb4 hne'
      refine wpMid_runm rfl (fun K hK => ?_)
      refine op_app (l := xs) (r := [(p.1, p.2.1, (La, Ln, Lc), (Ra, Rn, Rc))]) pan_elem pnc_len pnc_one _ _ rfl base _ _ rfl rfl hPa hua (by simp [maxLen]; omega) (by simp; omega) (Nat.le_trans (show base ≤ w5.heap.size by omega) hza) ?_
      intro v6 w6 hown6 hgr6
      replace hgr6 : (w5.drew.alloc (.cells #[.string ⟨p.1.toArray⟩, .int .i64 p.2.1, .slice La Ln Lc, .slice Ra Rn Rc] 29)).grownBy w6 _ := hgr6
      have hlt6 := hPa.lt
      obtain ⟨A6, c6, rfl⟩ := hown6.shape
      have hB6 := hBa.grown hgr6 (hPa.ne_blk hBa (by decide))
      have oL6 := oLa.kept hgr6 (Own.ne_own oLa hPa (by decide))
      have oR6 := oRa.kept hgr6 (Own.ne_own oRa hPa (by decide))
      have hx6 := hxa.to (fun _ _ ho => ho.kept hgr6 (Own.ne_own ho hPa (by decide)))
      have hst6 : Below base w5 w6 := bl_tgrown hst0 hgr6 (by omega) (fun k e => by have := (hlt6 k e).1; omega)
      refine hK _ _ hst6 (hPm _ hB6) ?_
      have hwr6 : Wrt base Br w w6 := ((Wrt.of_below hb25 (by omega)).then_ hba (by omega)).grown hPa hgr6 (Nat.le_refl _) (by omega)
      clear hK K hp0 hp1 hPm
      refine wpMid_nil ?_
      have hlen6 : (xs ++ [(p.1, p.2.1, (La, Ln, Lc), (Ra, Rn, Rc))]).length = xs.length + 1 := by simp
      rw [hlen6] at hown6 ⊢
      have fB6 := hB6.facts
      have hB7 := hB6.set_ 0 (.slice A6 (xs.length + 1) c6)
      have own7 := hown6.set (p := ⟨Br, 0, none⟩) (Ne.symm (hown6.ne_blk hB6 (by decide))) (.slice A6 (xs.length + 1) c6)
      have oL7 := oL6.set (p := ⟨Br, 0, none⟩) (Ne.symm (oL6.ne_blk hB6 (by decide))) (.slice A6 (xs.length + 1) c6)
      have oR7 := oR6.set (p := ⟨Br, 0, none⟩) (Ne.symm (oR6.ne_blk hB6 (by decide))) (.slice A6 (xs.length + 1) c6)
      have hx7 : PnsOwn base (w6.setCell ⟨Br, 0, none⟩ (.slice A6 (xs.length + 1) c6)) xs l := hx6.to (fun _ _ ho => ho.set (p := ⟨Br, 0, none⟩) (Ne.symm (ho.ne_blk hB6 (by decide))) _)
      have hst7 : Wrt base Br w (w6.setCell ⟨Br, 0, none⟩ (.slice A6 (xs.length + 1) c6)) := hwr6.set hB6 0 _
      have hz6 := hst6.size
      have hz7 : (w6.setCell ⟨Br, 0, none⟩ (.slice A6 (xs.length + 1) c6)).heap.size = w6.heap.size := by simp [World.setCell]
      go_wp2
      go_ret
      refine ⟨rfl, hst7, ⟨xs ++ [(p.1, p.2.1, (La, Ln, Lc), (Ra, Rn, Rc))], .slice A6 (xs.length + 1) c6, (p.1, p.2.1, (La, Ln, Lc), (Ra, Rn, Rc)), _, ?_, own7, PnsOwn.snoc ⟨rfl, rfl, oL7.base_mono (by omega), oR7.base_mono (by omega)⟩ hx7, Kpt.refl, by omega, trivial, by simp; omega, hn, (fun p' h => by cases h), h8⟩⟩
      simpa [sV, slV] using hB7
    · have t0 : (E != 0) = true := by simpa using hz
      clear hck hag hf2
      go_wp2
      go_ret
      exact ⟨rfl, Wrt.of_below hb25 (by omega), fun h => absurd h hz⟩
  · have HE : Hid (finE W l p = 25) := by unfold Hid finE; rw [if_pos hW]
    have t3 : ((W.length : Int) != 1) = true := by simp; omega
    obtain ⟨_, _, _, wb, _, _, _, hC, hbz, _⟩ := hr
    clear hW
    go_enter Tryz.func118, Tryz.ntmps118
    go_wp2
    go_ret
    exact ⟨by rw [HE.out]; rfl, Wrt.refl, fun h => by rw [HE.out] at h; exact absurd h (by decide)⟩
end Go.Proofs.YtmjfkgbbhplhcaaGreatDoor

/- The reader of panels: the lines that may follow. Conditions: none. -/
namespace Go.Proofs.YtmjfkgbbhplhcaaGreatDoor
open Go.RowKit Go.ChangeMaps
set_option maxHeartbeats 4000000
set_option maxRecDepth 100000

attribute [local go_sem] Oper.semAt_some
/-! ## the map of the lines that may follow -/
theorem sV_eq {a b : Str} : (({ data := a.toArray } : ByteArray) == { data := b.toArray }) = decide (a = b) := by
  rw [Bool.eq_iff_iff, MapKept.bytes_beq, decide_eq_true_iff]
  exact ⟨fun e => by
    have := congrArg (fun x : ByteArray => x.data.toList) e
    simpa using this, fun e => by rw [e]⟩
theorem str_key : KeyLaw Tryz.prog 9 sV where
  und := ⟨.string, by kernel_rfl, .inr fun a b => by simp only [Instr.sameNow, sV, sV_eq]⟩
  eq a b w := by
    have h : Tryz.prog.underlying 9 = some .string := by kernel_rfl
    unfold Op.equal Op.maxDepth sV
    rw [Op.equalIn]
    simp only [Sem.run_bind, run_underlying h, Result.andThen_ok]
    simp only [sV_eq]
    rfl
  ok e a w := by
    have h : Tryz.prog.underlying 9 = some .string := by kernel_rfl
    unfold sV
    rw [Instr.checkKey]
    simp only [Sem.run_bind, run_underlying h, Result.andThen_ok]
    rfl
  same a := by simp only [Instr.sameBits, sV, sV_eq, decide_true]
theorem und_fol : Tryz.prog.underlying 182 = some (.map 9 177) := by kernel_rfl
theorem zero_strs (w : World) : (zeroValue 177).run Tryz.prog w = .ok (.slice none 0 0) w := by kernel_rfl
/-- the lines behind which a line may stand -/
def folL (s : Str) : List Str := if s = wPan then [[], wEnd] else if s = wLeft then [wPan, wLeft] else if s = wRight then [wPan, wLeft, wRight] else if s = wEnd then [wPan, wLeft, wRight] else []
/-- .. as values; g: the map's block -/
def folV (g : Nat) (s : Str) : SlV := if s = wPan then (some ⟨g + 1, 0, none⟩, 2, 2) else if s = wLeft then (some ⟨g + 2, 0, none⟩, 2, 2) else if s = wRight then (some ⟨g + 3, 0, none⟩, 3, 3) else if s = wEnd then (some ⟨g + 4, 0, none⟩, 3, 3) else (none, 0, 0)
theorem putM {w : World} {r c : Nat} {m : List (Str × SlV × Nat)} (h : MapAt sV slV w r m c) (ok : MOk m c) (s : Str) (v : SlV) :
    ∃ w2 c2, (Instr.mapUpdate 182 (.map (some r)) (sV s) (slV v)).run Tryz.prog w = .ok () w2 ∧ MapAt sV slV w2 r (mput s v c m) c2 ∧ MOk (mput s v c m) c2 ∧ Chg [r] w w2 ∧ w2.heap.size = w.heap.size := by
  refine ⟨_, _, h.put str_key und_fol s v, ?_, ok.put s v, Chg.refl.setBlock (by simp) _, by simp [setBlock]⟩
  show (w.heap.setIfInBounds r _)[r]? = _
  rw [Array.getElem?_setIfInBounds_self_of_lt h.lt]
def pairA (s t : Str) : Array Value := #[sV s, sV t]
def tripA (s t u : Str) : Array Value := #[sV s, sV t, sV u]
theorem folMap (w : World) : ∃ X1 X2 X3 X4 : World,
    (Instr.mapUpdate 182 (.map (some w.heap.size)) (sV wPan) (.slice (some ⟨w.heap.size + 1, 0, none⟩) 2 2)).run Tryz.prog ((w.alloc (.map #[] 0)).alloc (.cells (pairA [] wEnd) 9)) = .ok () X1 ∧ X1.heap.size = w.heap.size + 2 ∧
    (Instr.mapUpdate 182 (.map (some w.heap.size)) (sV wLeft) (.slice (some ⟨w.heap.size + 2, 0, none⟩) 2 2)).run Tryz.prog (X1.alloc (.cells (pairA wPan wLeft) 9)) = .ok () X2 ∧ X2.heap.size = w.heap.size + 3 ∧
    (Instr.mapUpdate 182 (.map (some w.heap.size)) (sV wRight) (.slice (some ⟨w.heap.size + 3, 0, none⟩) 3 3)).run Tryz.prog (X2.alloc (.cells (tripA wPan wLeft wRight) 9)) = .ok () X3 ∧ X3.heap.size = w.heap.size + 4 ∧
    (Instr.mapUpdate 182 (.map (some w.heap.size)) (sV wEnd) (.slice (some ⟨w.heap.size + 4, 0, none⟩) 3 3)).run Tryz.prog (X3.alloc (.cells (tripA wPan wLeft wRight) 9)) = .ok () X4 ∧ X4.heap.size = w.heap.size + 5 ∧
    Below w.heap.size w X4 ∧
    (∀ s W, Below X4.heap.size X4 W → (Instr.lookup 182 (.map (some w.heap.size)) (sV s) false).run Tryz.prog W = .ok (slV (folV w.heap.size s)) W) ∧
    Blk X4 (w.heap.size + 1) 9 (pairA [] wEnd) ∧ Blk X4 (w.heap.size + 2) 9 (pairA wPan wLeft) ∧ Blk X4 (w.heap.size + 3) 9 (tripA wPan wLeft wRight) ∧ Blk X4 (w.heap.size + 4) 9 (tripA wPan wLeft wRight) := by
  have m0 := (MapAt.new w sV slV).alloc (.cells (pairA [] wEnd) 9)
  have k1 := Blk.new1 w (.map #[] 0) 9 (pairA [] wEnd)
  obtain ⟨X1, c1, e1, m1, o1, h1, y1⟩ := putM m0 MOk.nil_ wPan (some ⟨w.heap.size + 1, 0, none⟩, 2, 2)
  have z1 : X1.heap.size = w.heap.size + 2 := by rw [y1]; simp
  have m1a := m1.alloc (.cells (pairA wPan wLeft) 9)
  have k2 := Blk.new X1 9 (pairA wPan wLeft)
  rw [z1] at k2
  obtain ⟨X2, c2, e2, m2, o2, h2, y2⟩ := putM m1a o1 wLeft (some ⟨w.heap.size + 2, 0, none⟩, 2, 2)
  have z2 : X2.heap.size = w.heap.size + 3 := by rw [y2]; simp [z1]
  have m2a := m2.alloc (.cells (tripA wPan wLeft wRight) 9)
  have k3 := Blk.new X2 9 (tripA wPan wLeft wRight)
  rw [z2] at k3
  obtain ⟨X3, c3, e3, m3, o3, h3, y3⟩ := putM m2a o2 wRight (some ⟨w.heap.size + 3, 0, none⟩, 3, 3)
  have z3 : X3.heap.size = w.heap.size + 4 := by rw [y3]; simp [z2]
  have m3a := m3.alloc (.cells (tripA wPan wLeft wRight) 9)
  have k4 := Blk.new X3 9 (tripA wPan wLeft wRight)
  rw [z3] at k4
  obtain ⟨X4, c4, e4, m4, o4, h4, y4⟩ := putM m3a o3 wEnd (some ⟨w.heap.size + 4, 0, none⟩, 3, 3)
  have z4 : X4.heap.size = w.heap.size + 5 := by rw [y4]; simp [z3]
  have b0 : Below w.heap.size w ((w.alloc (.map #[] 0)).alloc (.cells (pairA [] wEnd) 9)) := bl_alloc (bl_alloc bl_refl _) _
  have b1 : Below w.heap.size w X1 := chg_bl b0 h1 (Nat.le_refl _)
  have b2 : Below w.heap.size w X2 := chg_bl (bl_alloc b1 _) h2 (Nat.le_refl _)
  have b3 : Below w.heap.size w X3 := chg_bl (bl_alloc b2 _) h3 (Nat.le_refl _)
  have b4 : Below w.heap.size w X4 := chg_bl (bl_alloc b3 _) h4 (Nat.le_refl _)
  refine ⟨X1, X2, X3, X4, e1, z1, e2, z2, e3, z3, e4, z4, b4, fun s W hW => ?_, ?_, ?_, ?_, ?_⟩
  · refine ((m4.below hW).look str_key und_fol (zero_strs W) s).trans ?_
    simp only [mget_put, mget]
    unfold folV
    by_cases q1 : s = wPan
    · subst q1; rfl
    · by_cases q2 : s = wLeft
      · subst q2; rfl
      · by_cases q3 : s = wRight
        · subst q3; rfl
        · by_cases q4 : s = wEnd
          · subst q4; rfl
          · simp only [q1, q2, q3, q4, if_false]; rfl
  · exact (((((k1.chg h1 (by simp)).alloc _).chg h2 (by simp)).alloc _).chg h3 (by simp)).alloc _ |>.chg h4 (by simp)
  · exact ((((k2.chg h2 (by simp)).alloc _).chg h3 (by simp)).alloc _).chg h4 (by simp)
  · exact ((k3.chg h3 (by simp)).alloc _).chg h4 (by simp)
  · exact k4.chg h4 (by simp)
end Go.Proofs.YtmjfkgbbhplhcaaGreatDoor
