/- The reader of panels: finish, walked. Conditions: none. -/
import Derived.Test.YtkkefahobjlagaaGreatDoorQ30
import Derived.Test.YtkkefahobjlagaaGreatDoorQ32
namespace Go.Proofs.YtkkefahobjlagaaGreatDoor
open Go.RowKit Go.ChangeMaps
set_option maxHeartbeats 4000000
set_option maxRecDepth 100000
attribute [local go_sem] Oper.semAt_some
def finE (W : List Str) (l : List Pan) (p : Pan) : Int := if W.length ≠ 1 then 25 else firstI [panE p, whenI (agnB l p.1) 9]
theorem finish_any (base Br n : Nat) (W : List Str) (A : Option Addr) (c : Nat) (l : List Pan) (p : Pan) (st : Str) (w : World) (hr : RdrAt base Br n w l (some p) st) (hn : n + 1 ≤ 20000) :
  Calls Tryz.prog 160 #[.pointer (some ⟨Br, 0, none⟩), .slice A W.length c] w (fun e w' => e = .returned (.int .i64 (finE W l p)) ∧ Wrt base Br w w' ∧ (finE W l p = 0 → RdrAt base Br (n + 1) w' (l ++ [p]) none st)) := by
 by_cases hW : W.length = 1
 ·rw [hW]
  obtain ⟨xs, vP, ⟨nm, wd, ⟨La, Ln, Lc⟩, ⟨Ra, Rn, Rc⟩⟩, wb, hBr, hP, hxs, hC, hbz, ⟨nr, n1, n2, m1, m2, oL, oLt, oR, oRn⟩, h5, h6, h7, h8⟩ := hr
  simp only at m1 m2
  subst m1 m2
  obtain ⟨h71, _, _, _⟩ := h7 p rfl
  have hxs0 := hxs.to hC.own
  have hxl := hxs.len
  have hzC := hC.size
  have HE : Hid (finE W l p = firstI [panE p, whenI (agnB l p.1) 9]) := by unfold Hid finE; rw [if_neg (by simp [hW])]
  obtain ⟨E, hEE⟩ : ∃ E, finE W l p = E := ⟨_, rfl⟩
  rw [hEE] at HE ⊢
  have hck := fun W (hb : Below w.heap.size w W) => checkPanel_any (vL := slV (La, Ln, Lc)) (vR := slV (Ra, Rn, Rc)) p W (by omega) ((oL.rd ec_len).below hb) ((oR.rd ec_len).below hb)
  obtain ⟨PA, Pc, rfl⟩ := hP.shape
  have hag := fun W (hb : Below w.heap.size w W) => again_any xs l PA Pc (p.1, p.2.1, (La, Ln, Lc), (Ra, Rn, Rc)) W (hxs0.at_.below hb) (Sl.rd_ ((hP.rd pnc_len).below hb)) (by omega)
  have hf2 : ∀ A c' W, Rd ic 1 W A [panE p, whenI (agnB l p.1) 9] → Calls Tryz.prog 72 #[.slice A 2 c'] W (RV W (.int .i64 E)) := fun A c' W hr => by
   rw [HE.out]
   exact pfirst_any [panE p, whenI (agnB l p.1) 9] A c' W (by simp [maxLen]) hr
  obtain ⟨E1, hE1⟩ : ∃ E, panE p = E := ⟨_, rfl⟩
  obtain ⟨q, hq⟩ : ∃ E, agnB l p.1 = E := ⟨_, rfl⟩
  simp only [sV, slV] at hck hag hBr oL oR
  rw [hE1] at hck hf2
  rw [hq] at hag hf2
  have fB := hBr.facts
  have hx2 : xs.length ≤ 20000 := by omega
  clear hEE hE1 hq HE hW h7 hxl
  go_enter Tryz.func160, Tryz.ntmps160
  go_upto_region 3 with fail
  refine wp_region_ords [0, 1, 2, 3, 5, 6, 7, 8, 9, 10, 11, 12] [(4, false)] [13, 14, 15, 16, 17] (by kernel_rfl) (by kernel_rfl) (fun d _ _ _ _ h => by cases d <;> exact h) ?_
  simp only [List.map_cons, List.map_nil, List.getD_cons_zero, List.getD_cons_succ]
  repeat (go_big_quiet_step (fail))
  refine wpQuiet_nil ?_
  refine wpMid_run rfl (fun K hK => ?_)
  go_simp
  refine (hck _ (by (repeat first|exact J0|assumption|(apply J1;assumption)|apply J2|apply J3|apply J4))).mono ?_
  rintro e w2 ⟨rfl, hb2⟩
  refine hK _ _ (by (repeat first|exact J0|assumption|(apply J1;assumption)|apply J2|apply J3|apply J4)) ?_
  clear hK K
  have hBr_w2 := hBr.below (show Below _ _ w2 by (repeat first|exact J0|assumption|(apply J1;assumption)|apply J2|apply J3|apply J4))
  have fhBr_w2 := hBr_w2.facts
  refine wpMid_nil ?_
  go_wp2_with (first | (go_at_call 152; refine (hag _ (by (repeat first|exact J0|assumption|(apply J1;assumption)|apply J2|apply J3|apply J4))).mono ?_; rintro e w3 ⟨rfl, hb3⟩) | (go_at_call 117; refine (pwhen_any _ _ _).mono ?_; rintro e w4 ⟨rfl, hb4⟩))
  go_must (refine (hf2 _ _ _ (Rd.ints2 (by simp) (by go_simp) (by go_simp))).mono ?_)
  rintro e w5 ⟨rfl, hb5⟩
  have hb25 : Below w.heap.size w w5 := by (repeat first|exact J0|assumption|(apply J1;assumption)|apply J2|apply J3|apply J4)
  by_cases hz : E = 0
  ·subst hz
   have hB4 := hBr.below hb25
   have hP4 := hP.below hb25
   have oL4 := oL.below hb25
   have oR4 := oR.below hb25
   have hx4 := hxs0.below hb25
   have hz4 := hb25.size
   have fB4 := hB4.facts
   clear hck hag hf2 hb2 hb3 hb4 hb5 fB
   go_upto_region 6 with fail
   have hBa := (hB4.drew).alloc (.cells #[.string ⟨p.1.toArray⟩, .int .i64 p.2.1, .slice La Ln Lc, .slice Ra Rn Rc] 30)
   have hPa := (hP4.drew).alloc (.cells #[.string ⟨p.1.toArray⟩, .int .i64 p.2.1, .slice La Ln Lc, .slice Ra Rn Rc] 30)
   have oLa := (oL4.drew).alloc (.cells #[.string ⟨p.1.toArray⟩, .int .i64 p.2.1, .slice La Ln Lc, .slice Ra Rn Rc] 30)
   have oRa := (oR4.drew).alloc (.cells #[.string ⟨p.1.toArray⟩, .int .i64 p.2.1, .slice La Ln Lc, .slice Ra Rn Rc] 30)
   have hba : Below w5.heap.size w5 (w5.drew.alloc (.cells #[.string ⟨p.1.toArray⟩, .int .i64 p.2.1, .slice La Ln Lc, .slice Ra Rn Rc] 30)) := bl_alloc (bl_drew bl_refl) _
   have hxa := hx4.below hba
   have hua : Sl pnc 4 (w5.drew.alloc (.cells #[.string ⟨p.1.toArray⟩, .int .i64 p.2.1, .slice La Ln Lc, .slice Ra Rn Rc] 30)) (.slice (some ⟨w5.heap.size, 0, none⟩) 1 1) [(p.1, p.2.1, (La, Ln, Lc), (Ra, Rn, Rc))] := Sl.oneG w5.drew _ (p.1, p.2.1, (La, Ln, Lc), (Ra, Rn, Rc)) _ rfl
   have hza := hba.size
   obtain ⟨P0, hP0⟩ : ∃ P0 : World → Prop, P0 = fun u => ∀ i, u.cell? ⟨Br, i, none⟩ = (#[.slice PA xs.length Pc, .string ⟨p.1.toArray⟩, .int .i64 p.2.1, .slice La Ln Lc, .slice Ra Rn Rc, .string ⟨st.toArray⟩] : Array Value)[i]? := ⟨_, rfl⟩
   have hPm : ∀ u, Blk u Br 172 #[.slice PA xs.length Pc, .string ⟨p.1.toArray⟩, .int .i64 p.2.1, .slice La Ln Lc, .slice Ra Rn Rc, .string ⟨st.toArray⟩] → P0 u := fun u h1 => by
    rw [hP0]
    exact h1.cell
   have hPi : ∀ u, P0 u → ∀ i, u.cell? ⟨Br, i, none⟩ = (#[.slice PA xs.length Pc, .string ⟨p.1.toArray⟩, .int .i64 p.2.1, .slice La Ln Lc, .slice Ra Rn Rc, .string ⟨st.toArray⟩] : Array Value)[i]? := fun u h => by rw [hP0] at h; exact h
   have hp0 : P0 w5.drew := hPm _ hB4.drew
   have hp1 := hPm _ hBa
   have hcb0 : ∀ u : BelM base w5 P0, u.val.cell? ⟨Br, 0, none⟩ = some (.slice PA xs.length Pc) := fun u => hPi _ u.has 0
   have hcb1 : ∀ u : BelM base w5 P0, u.val.cell? ⟨Br, 1, none⟩ = some (.string ⟨p.1.toArray⟩) := fun u => hPi _ u.has 1
   have hcb2 : ∀ u : BelM base w5 P0, u.val.cell? ⟨Br, 2, none⟩ = some (.int .i64 p.2.1) := fun u => hPi _ u.has 2
   have hcb3 : ∀ u : BelM base w5 P0, u.val.cell? ⟨Br, 3, none⟩ = some (.slice La Ln Lc) := fun u => hPi _ u.has 3
   have hcb4 : ∀ u : BelM base w5 P0, u.val.cell? ⟨Br, 4, none⟩ = some (.slice Ra Rn Rc) := fun u => hPi _ u.has 4
   have hst0 : Below base w5 (w5.drew.alloc (.cells #[.string ⟨p.1.toArray⟩, .int .i64 p.2.1, .slice La Ln Lc, .slice Ra Rn Rc] 30)) := hba.mono (by omega)
   haveI hne' : Nonempty (BelM base w5 P0) := BelM.none_empty hst0 hp1
   clear hP0 hPi
   refine wp_region_ordm (base) (P0) [0, 1, 2, 3, 4, 5, 6, 7, 8] [(9, false), (10, false)] [11, 12, 13] (by kernel_rfl) (by kernel_rfl) (fun d _ _ _ _ h => by cases d <;> exact h) (hp0) ?_
   simp only [List.map_cons, List.map_nil, List.getD_cons_zero, List.getD_cons_succ]
   repeat (go_big_quiet_step (fail))
   refine wpQuiet_nil ?_
   refine wpMid_runm rfl (fun K hK => ?_)
   go_simp
   refine hK _ _ (hst0) (hp1) ?_
   clear hK K
   clear hcb0 hcb1 hcb2 hcb3 hcb4 hne'
   refine wpMid_runm rfl (fun K hK => ?_)
   refine op_app (l := xs) (r := [(p.1, p.2.1, (La, Ln, Lc), (Ra, Rn, Rc))]) pan_elem pnc_len pnc_one _ _ rfl base _ _ rfl rfl hPa hua (by simp [maxLen]; omega) (by simp; omega) (Nat.le_trans (show base ≤ w5.heap.size by omega) hza) ?_
   intro v6 w6 hown6 hgr6
   replace hgr6 : (w5.drew.alloc (.cells #[.string ⟨p.1.toArray⟩, .int .i64 p.2.1, .slice La Ln Lc, .slice Ra Rn Rc] 30)).grownBy w6 _ := hgr6
   have hlt6 := hPa.lt
   obtain ⟨A6, c6, rfl⟩ := hown6.shape
   have hB6 := hBa.grown hgr6 (hPa.ne_blk hBa (by decide))
   have oL6 := oLa.kept hgr6 (Own.ne_own oLa hPa (by decide))
   have oR6 := oRa.kept hgr6 (Own.ne_own oRa hPa (by decide))
   have hx6 := hxa.to (fun _ _ ho => ho.kept hgr6 (Own.ne_own ho hPa (by decide)))
   have hst6 : Below base w5 w6 := bl_tgrown hst0 hgr6 (by omega) (fun k e => by have := (hlt6 k e).1; omega)
   refine hK _ _ hst6 (hPm _ hB6) ?_
   have hwr6 : Wrt base Br w w6 := ((Wrt.of_below hb25 (by omega)).then_ hba (by omega)).grown hPa hgr6 (Nat.le_refl _) (by omega)
   clear hK K hp0 hp1 hPm
   refine wpMid_nil ?_
   have hlen6 : (xs ++ [(p.1, p.2.1, (La, Ln, Lc), (Ra, Rn, Rc))]).length = xs.length + 1 := by simp
   rw [hlen6] at hown6 ⊢
   have fB6 := hB6.facts
   have hB7 := hB6.set_ 0 (.slice A6 (xs.length + 1) c6)
   have own7 := hown6.set (p := ⟨Br, 0, none⟩) (Ne.symm (hown6.ne_blk hB6 (by decide))) (.slice A6 (xs.length + 1) c6)
   have oL7 := oL6.set (p := ⟨Br, 0, none⟩) (Ne.symm (oL6.ne_blk hB6 (by decide))) (.slice A6 (xs.length + 1) c6)
   have oR7 := oR6.set (p := ⟨Br, 0, none⟩) (Ne.symm (oR6.ne_blk hB6 (by decide))) (.slice A6 (xs.length + 1) c6)
   have hx7 : PnsOwn base (w6.setCell ⟨Br, 0, none⟩ (.slice A6 (xs.length + 1) c6)) xs l := hx6.to (fun _ _ ho => ho.set (p := ⟨Br, 0, none⟩) (Ne.symm (ho.ne_blk hB6 (by decide))) _)
   have hst7 : Wrt base Br w (w6.setCell ⟨Br, 0, none⟩ (.slice A6 (xs.length + 1) c6)) := hwr6.set hB6 0 _
   have hz6 := hst6.size
   have hz7 : (w6.setCell ⟨Br, 0, none⟩ (.slice A6 (xs.length + 1) c6)).heap.size = w6.heap.size := by simp [World.setCell]
   go_wp2
   go_ret
   refine ⟨rfl, hst7, ⟨xs ++ [(p.1, p.2.1, (La, Ln, Lc), (Ra, Rn, Rc))], .slice A6 (xs.length + 1) c6, (p.1, p.2.1, (La, Ln, Lc), (Ra, Rn, Rc)), _, ?_, own7, PnsOwn.snoc ⟨rfl, rfl, oL7.base_mono (by omega), oR7.base_mono (by omega)⟩ hx7, Kpt.refl, by omega, trivial, by simp; omega, hn, (fun p' h => by cases h), h8⟩⟩
   simpa [sV, slV] using hB7
  ·have t0 : (E != 0) = true := by simpa using hz
   clear hck hag hf2
   go_wp2
   go_ret
   exact ⟨rfl, Wrt.of_below hb25 (by omega), fun h => absurd h hz⟩
 ·have HE : Hid (finE W l p = 25) := by unfold Hid finE; rw [if_pos hW]
  have t3 : ((W.length : Int) != 1) = true := by simp; omega
  obtain ⟨_, _, _, wb, _, _, _, hC, hbz, _⟩ := hr
  clear hW
  go_enter Tryz.func160, Tryz.ntmps160
  go_wp2
  go_ret
  exact ⟨by rw [HE.out]; rfl, Wrt.refl, fun h => by rw [HE.out] at h; exact absurd h (by decide)⟩
theorem sV_eq {a b : Str} : (({ data := a.toArray } : ByteArray) == { data := b.toArray }) = decide (a = b) := by
 rw [Bool.eq_iff_iff, MapKept.bytes_beq, decide_eq_true_iff]
 exact ⟨fun e => by
  have := congrArg (fun x : ByteArray => x.data.toList) e
  simpa using this, fun e => by rw [e]⟩
theorem str_key : KeyLaw Tryz.prog 9 sV where
 und := ⟨.string, by kernel_rfl, .inr fun a b => by simp only [Instr.sameNow, sV, sV_eq]⟩
 eq a b w := by
  have h : Tryz.prog.underlying 9 = some .string := by kernel_rfl
  unfold Op.equal Op.maxDepth sV
  rw [Op.equalIn]
  simp only [Sem.run_bind, run_underlying h, Result.andThen_ok]
  simp only [sV_eq]
  rfl
 ok e a w := by
  have h : Tryz.prog.underlying 9 = some .string := by kernel_rfl
  unfold sV
  rw [Instr.checkKey]
  simp only [Sem.run_bind, run_underlying h, Result.andThen_ok]
  rfl
 same a := by simp only [Instr.sameBits, sV, sV_eq, decide_true]
theorem und_fol : Tryz.prog.underlying 230 = some (.map 9 178) := by kernel_rfl
theorem zero_strs (w : World) : (zeroValue 178).run Tryz.prog w = .ok (.slice none 0 0) w := by kernel_rfl
def folL (s : Str) : List Str := if s = wPan then [[], wEnd] else if s = wLeft then [wPan, wLeft] else if s = wRight then [wPan, wLeft, wRight] else if s = wEnd then [wPan, wLeft, wRight] else []
def folV (g : Nat) (s : Str) : SlV := if s = wPan then (some ⟨g + 1, 0, none⟩, 2, 2) else if s = wLeft then (some ⟨g + 2, 0, none⟩, 2, 2) else if s = wRight then (some ⟨g + 3, 0, none⟩, 3, 3) else if s = wEnd then (some ⟨g + 4, 0, none⟩, 3, 3) else (none, 0, 0)
theorem putM {w : World} {r c : Nat} {m : List (Str × SlV × Nat)} (h : MapAt sV slV w r m c) (ok : MOk m c) (s : Str) (v : SlV) :
  ∃ w2 c2, (Instr.mapUpdate 230 (.map (some r)) (sV s) (slV v)).run Tryz.prog w = .ok () w2 ∧ MapAt sV slV w2 r (mput s v c m) c2 ∧ MOk (mput s v c m) c2 ∧ Chg [r] w w2 ∧ w2.heap.size = w.heap.size := by
 refine ⟨_, _, h.put str_key und_fol s v, ?_, ok.put s v, Chg.refl.setBlock (by simp) _, by simp [setBlock]⟩
 show (w.heap.setIfInBounds r _)[r]? = _
 rw [Array.getElem?_setIfInBounds_self_of_lt h.lt]
def pairA (s t : Str) : Array Value := #[sV s, sV t]
def tripA (s t u : Str) : Array Value := #[sV s, sV t, sV u]
theorem folMap (w : World) : ∃ X1 X2 X3 X4 : World,
  (Instr.mapUpdate 230 (.map (some w.heap.size)) (sV wPan) (.slice (some ⟨w.heap.size + 1, 0, none⟩) 2 2)).run Tryz.prog ((w.alloc (.map #[] 0)).alloc (.cells (pairA [] wEnd) 9)) = .ok () X1 ∧ X1.heap.size = w.heap.size + 2 ∧
  (Instr.mapUpdate 230 (.map (some w.heap.size)) (sV wLeft) (.slice (some ⟨w.heap.size + 2, 0, none⟩) 2 2)).run Tryz.prog (X1.alloc (.cells (pairA wPan wLeft) 9)) = .ok () X2 ∧ X2.heap.size = w.heap.size + 3 ∧
  (Instr.mapUpdate 230 (.map (some w.heap.size)) (sV wRight) (.slice (some ⟨w.heap.size + 3, 0, none⟩) 3 3)).run Tryz.prog (X2.alloc (.cells (tripA wPan wLeft wRight) 9)) = .ok () X3 ∧ X3.heap.size = w.heap.size + 4 ∧
  (Instr.mapUpdate 230 (.map (some w.heap.size)) (sV wEnd) (.slice (some ⟨w.heap.size + 4, 0, none⟩) 3 3)).run Tryz.prog (X3.alloc (.cells (tripA wPan wLeft wRight) 9)) = .ok () X4 ∧ X4.heap.size = w.heap.size + 5 ∧
  Below w.heap.size w X4 ∧
  (∀ s W, Below X4.heap.size X4 W → (Instr.lookup 230 (.map (some w.heap.size)) (sV s) false).run Tryz.prog W = .ok (slV (folV w.heap.size s)) W) ∧
  Blk X4 (w.heap.size + 1) 9 (pairA [] wEnd) ∧ Blk X4 (w.heap.size + 2) 9 (pairA wPan wLeft) ∧ Blk X4 (w.heap.size + 3) 9 (tripA wPan wLeft wRight) ∧ Blk X4 (w.heap.size + 4) 9 (tripA wPan wLeft wRight) := by
 have m0 := (MapAt.new w sV slV).alloc (.cells (pairA [] wEnd) 9)
 have k1 := Blk.new1 w (.map #[] 0) 9 (pairA [] wEnd)
 obtain ⟨X1, c1, e1, m1, o1, h1, y1⟩ := putM m0 MOk.nil_ wPan (some ⟨w.heap.size + 1, 0, none⟩, 2, 2)
 have z1 : X1.heap.size = w.heap.size + 2 := by rw [y1]; simp
 have m1a := m1.alloc (.cells (pairA wPan wLeft) 9)
 have k2 := Blk.new X1 9 (pairA wPan wLeft)
 rw [z1] at k2
 obtain ⟨X2, c2, e2, m2, o2, h2, y2⟩ := putM m1a o1 wLeft (some ⟨w.heap.size + 2, 0, none⟩, 2, 2)
 have z2 : X2.heap.size = w.heap.size + 3 := by rw [y2]; simp [z1]
 have m2a := m2.alloc (.cells (tripA wPan wLeft wRight) 9)
 have k3 := Blk.new X2 9 (tripA wPan wLeft wRight)
 rw [z2] at k3
 obtain ⟨X3, c3, e3, m3, o3, h3, y3⟩ := putM m2a o2 wRight (some ⟨w.heap.size + 3, 0, none⟩, 3, 3)
 have z3 : X3.heap.size = w.heap.size + 4 := by rw [y3]; simp [z2]
 have m3a := m3.alloc (.cells (tripA wPan wLeft wRight) 9)
 have k4 := Blk.new X3 9 (tripA wPan wLeft wRight)
 rw [z3] at k4
 obtain ⟨X4, c4, e4, m4, o4, h4, y4⟩ := putM m3a o3 wEnd (some ⟨w.heap.size + 4, 0, none⟩, 3, 3)
 have z4 : X4.heap.size = w.heap.size + 5 := by rw [y4]; simp [z3]
 have b0 : Below w.heap.size w ((w.alloc (.map #[] 0)).alloc (.cells (pairA [] wEnd) 9)) := bl_alloc (bl_alloc bl_refl _) _
 have b1 : Below w.heap.size w X1 := chg_bl b0 h1 (Nat.le_refl _)
 have b2 : Below w.heap.size w X2 := chg_bl (bl_alloc b1 _) h2 (Nat.le_refl _)
 have b3 : Below w.heap.size w X3 := chg_bl (bl_alloc b2 _) h3 (Nat.le_refl _)
 have b4 : Below w.heap.size w X4 := chg_bl (bl_alloc b3 _) h4 (Nat.le_refl _)
 refine ⟨X1, X2, X3, X4, e1, z1, e2, z2, e3, z3, e4, z4, b4, fun s W hW => ?_, ?_, ?_, ?_, ?_⟩
 ·refine ((m4.below hW).look str_key und_fol (zero_strs W) s).trans ?_
  simp only [mget_put, mget]
  unfold folV
  by_cases q1 : s = wPan
  ·subst q1; rfl
  ·by_cases q2 : s = wLeft
   ·subst q2; rfl
   ·by_cases q3 : s = wRight
    ·subst q3; rfl
    ·by_cases q4 : s = wEnd
     ·subst q4; rfl
     ·simp only [q1, q2, q3, q4, if_false]; rfl
 ·exact (((((k1.chg h1 (by simp)).alloc _).chg h2 (by simp)).alloc _).chg h3 (by simp)).alloc _ |>.chg h4 (by simp)
 ·exact ((((k2.chg h2 (by simp)).alloc _).chg h3 (by simp)).alloc _).chg h4 (by simp)
 ·exact ((k3.chg h3 (by simp)).alloc _).chg h4 (by simp)
 ·exact k4.chg h4 (by simp)
theorem idxNil_any (x : Value) (w : World) : Calls Tryz.prog 188 #[.slice none 0 0, x] w (RV w (.int .i64 (-1))) := by
 go_enter Tryz.func188, Tryz.ntmps188
 go_wp2
 go_loopw [8] (fun i wr => i = .int .i64 0 ∧ Below w.heap.size w wr) (fun _ _ => 0)
 case atStart => exact ⟨rfl, bl_refl⟩
 case round =>
  obtain ⟨rfl, hbw⟩ := hrel
  go_wp2
  go_ret
  exact ⟨rfl, hbw⟩
theorem contNil_any (x : Value) (w : World) : Calls Tryz.prog 158 #[.slice none 0 0, x] w (RV w (.bool false)) := by
 go_enter Tryz.func158, Tryz.ntmps158
 go_wp2_with (go_at_call 188; refine (idxNil_any _ _).mono ?_; rintro e w1 ⟨rfl, hb1⟩)
 go_ret
 exact ⟨rfl, hb1⟩
theorem contRow_any (g : Nat) (l : List Str) (st : Str) (w : World) (hB : Blk w g 9 (l.map sV).toArray) (hl : l.length ≤ 10) : Calls Tryz.prog 158 #[.slice (some ⟨g, 0, none⟩) l.length l.length, sV st] w (RV w (.bool (decide (st ∈ l)))) := by
 have h := str_slices_Contains_string g 0 l.length l.length (l.map fun s => ⟨s.toArray⟩) ⟨st.toArray⟩ w (by simp) (by omega) (fun j hj => by
  rw [hB.cell, Nat.zero_add]
  simp at hj
  simp [List.getElem?_eq_getElem hj, List.getD_eq_getElem?_getD, sV])
 refine h.mono ?_
 rintro e w' ⟨rfl, rfl⟩
 refine ⟨?_, bl_refl⟩
 have e : Lib.containsS ((l.map fun s => (⟨s.toArray⟩ : ByteArray)).take l.length) ⟨st.toArray⟩ = decide (st ∈ l) := by
  rw [Bool.eq_iff_iff, Lib.containsS_iff, decide_eq_true_iff, List.take_of_length_le (by simp), List.mem_map]
  constructor
  ·rintro ⟨a, ha, he⟩
   have : a = st := by
    have := congrArg (fun x : ByteArray => x.data.toList) he
    simpa using this
   exact this ▸ ha
  ·exact fun h => ⟨st, h, rfl⟩
 rw [e]
theorem cont_any (g : Nat) (s st : Str) (w : World) (k1 : Blk w (g + 1) 9 (pairA [] wEnd)) (k2 : Blk w (g + 2) 9 (pairA wPan wLeft)) (k3 : Blk w (g + 3) 9 (tripA wPan wLeft wRight)) (k4 : Blk w (g + 4) 9 (tripA wPan wLeft wRight)) :
  Calls Tryz.prog 158 #[slV (folV g s), sV st] w (RV w (.bool (decide (st ∈ folL s)))) := by
 unfold folV folL
 by_cases q1 : s = wPan
 ·simp only [q1, if_true]
  exact contRow_any (g + 1) [[], wEnd] st w k1 (by simp)
 ·by_cases q2 : s = wLeft
  ·rw [if_neg q1, if_neg q1, if_pos q2, if_pos q2]
   exact contRow_any (g + 2) [wPan, wLeft] st w k2 (by simp)
  ·by_cases q3 : s = wRight
   ·rw [if_neg q1, if_neg q1, if_neg q2, if_neg q2, if_pos q3, if_pos q3]
    exact contRow_any (g + 3) [wPan, wLeft, wRight] st w k3 (by simp)
   ·by_cases q4 : s = wEnd
    ·rw [if_neg q1, if_neg q1, if_neg q2, if_neg q2, if_neg q3, if_neg q3, if_pos q4, if_pos q4]
     exact contRow_any (g + 4) [wPan, wLeft, wRight] st w k4 (by simp)
    ·rw [if_neg q1, if_neg q1, if_neg q2, if_neg q2, if_neg q3, if_neg q3, if_neg q4, if_neg q4]
     have : decide (st ∈ ([] : List Str)) = false := by simp
     rw [this]
     exact contNil_any _ w
theorem OpnAt.to {nb : Nat} {W W' : World} {x : PnV} {o : Option Pan} (hz : W.heap.size ≤ W'.heap.size) (f : ∀ b v l, Own ec 3 b 107 W v l → Own ec 3 b 107 W' v l) (h : OpnAt nb W x o) : OpnAt nb W' x o := by
 cases o with
 | none => trivial
 | some p =>
  obtain ⟨nr, n1, n2, h1, h2, h3, h4, h5, h6⟩ := h
  exact ⟨nr, n1, Nat.le_trans n2 hz, h1, h2, f _ _ _ h3, h4, f _ _ _ h5, h6⟩
theorem RdrAt.below {base Br n : Nat} {W W' : World} {l : List Pan} {o : Option Pan} {st : Str} (h : RdrAt base Br n W l o st) (hb : Below W.heap.size W W') : RdrAt base Br n W' l o st := by
 obtain ⟨xs, vP, x, wb, h1, h2, h3, h5, h6, h7, h8⟩ := h
 exact ⟨xs, vP, x, wb, h1.below hb, h2.below hb, h3, h5.then_ hb, h6, h7.to hb.size (fun _ _ _ ho => ho.below hb), h8⟩
theorem RdrAt.chgB {base Br n B : Nat} {W W' : World} {l : List Pan} {o : Option Pan} {st : Str} (h : RdrAt base Br n W l o st) (hB : B < base) (hne : Br ≠ B) (hc : Chg [B] W W') : RdrAt base Br n W' l o st := by
 obtain ⟨xs, vP, x, wb, h1, h2, h3, h5, h6, h7, h8⟩ := h
 refine ⟨xs, vP, x, wb, h1.chg hc (by simpa using hne), h2.chg hc (by simp; omega), h3, h5.chg hB hc, h6, ?_, h8⟩
 cases o with
 | none => trivial
 | some p =>
  obtain ⟨nr, n1, n2, m1, m2, m3, m4, m5, m6⟩ := h7
  exact ⟨nr, n1, Nat.le_trans n2 hc.size, m1, m2, m3.chg hc (by simp; omega), m4, m5.chg hc (by simp; omega), m6⟩
theorem RdrAt.from {base Br n D : Nat} {W W' : World} {l : List Pan} {o : Option Pan} {st : Str} {row : Option Nat} (h : RdrAt base Br n W l o st) (g : W.grownBy W' row) (hr : ∀ r, row = some r → D ≤ r ∧ ∃ o : Obj, W.heap[r]? = some o ∧ o.isCells = false) : RdrAt base Br n W' l o st := by
 obtain ⟨xs, vP, x, wb, h1, h2, h3, h5, h6, h7, h8⟩ := h
 exact ⟨xs, vP, x, wb, h1.grown g (nc_blk h1 hr), h2.kept g (nc_own h2 hr), h3, h5.from g hr, h6, h7.to g.size (fun _ _ _ ho => ho.kept g (nc_own ho hr)), h8⟩
theorem RdrAt.state {base Br n : Nat} {W : World} {l : List Pan} {o : Option Pan} {st : Str} (h : RdrAt base Br n W l o st) (o' : Option Pan) (ho : o' = none ∨ o' = o) (s : Str) (hs : s.length ≤ 100000) (hc : ∀ p, o' = some p → s = wPan ∨ s = wLeft → p.2.2.2 = []) :
  RdrAt base Br n (W.setCell ⟨Br, 5, none⟩ (sV s)) l o' s := by
 obtain ⟨xs, vP, x, wb, h1, h2, h3, h5, h6, h7, h8, h9, h10, h11⟩ := h
 have hset : ∀ {α : Type} {enc : α → List Value} {sz b : Nat} {e : TypeId} {v : Value} {r : List α}, 172 ≠ e → Own enc sz b e W v r → Own enc sz b e (W.setCell ⟨Br, 5, none⟩ (sV s)) v r := fun he ho => ho.set (p := ⟨Br, 5, none⟩) (Ne.symm (ho.ne_blk h1 he)) _
 refine ⟨xs, vP, x, wb, ?_, hset (by decide) h2, h3, h5.setIn h1 (by decide) 5 _, h6, ?_, h8, h9, ?_, hs⟩
 ·have := h1.set_ 5 (sV s)
  simpa using this
 ·rcases ho with rfl | rfl
  ·trivial
  ·exact h7.to (by simp [World.setCell]) (fun _ _ _ ho => hset (by decide) ho)
 ·intro p hp
  rcases ho with rfl | rfl
  ·cases hp
  ·obtain ⟨q1, q2, q3, _⟩ := h10 p hp
   exact ⟨q1, q2, q3, hc p hp⟩
theorem edge_any (base Br n : Nat) (W : List Str) (A : Option Addr) (c : Nat) (l : List Pan) (p : Pan) (st : Str) (w : World) (hL : Lay w) (hr : RdrAt base Br n w l (some p) st) (hW : Rd strc 1 w A W) (hlen : W.length ≤ 100000) (hs : ∀ s ∈ W, s.length ≤ 100000) (hn : n + 1 ≤ 20000) (hst : W[0]? = some st) (hnp : st ≠ wPan) :
    Calls Tryz.prog 161 #[.pointer (some ⟨Br, 0, none⟩), .slice A W.length c] w (fun e w' => e = .returned (.int .i64 (edgeE W)) ∧ Wrt base Br w w' ∧ (edgeE W = 0 → RdrAt base Br (n + 1) w' l (some (edgeP W p)) st)) := by
  by_cases hbad : W.length ≠ 4 ∨ W.getD 1 [] = [] ∨ (W.getD 3 [] ≠ wOut ∧ W.getD 3 [] ≠ wIn)
  · have HE : edgeE W = 25 := by
      unfold edgeE
      rw [if_pos]
      rcases hbad with h | h | h
      · exact .inl h
      · exact .inr (.inl h)
      · exact .inr (.inr (.inl h))
    rw [HE]
    have hbz : base ≤ w.heap.size := by
      obtain ⟨_, _, _, _, _, _, _, k1, k2, _⟩ := id hr
      exact Nat.le_trans k2 k1.size
    refine (edge_bad w.heap.size Br W A c w hW hlen hbad).mono ?_
    rintro e w' ⟨h1, h2⟩
    exact ⟨h1, Wrt.of_below h2 hbz, fun h => absurd h (by decide)⟩
  · have h4 : W.length = 4 := Classical.byContradiction fun h => hbad (.inl h)
    have h1 : W.getD 1 [] ≠ [] := fun h => hbad (.inr (.inl h))
    have h3 : W.getD 3 [] = wOut ∨ W.getD 3 [] = wIn := by
      by_cases h : W.getD 3 [] = wOut
      · exact .inl h
      · exact .inr (Classical.byContradiction fun h' => hbad (.inr (.inr ⟨h, h'⟩)))
    exact edge_num base Br n W A c l p st w hL hr hW hs hn hst hnp h4 h1 h3
def readW (line : Str) : List Str := wordsL (Lib.trimSuffix line [10])
def rdE (W : List Str) (ok : Bool) (l : List Pan) (o : Option Pan) (st : Str) : Int :=
 if ok = false ∨ st ∉ folL (W.getD 0 []) then 25 else if W.getD 0 [] = wPan then begE W l else o.elim 25 fun p => if W.getD 0 [] = wEnd then finE W l p else edgeE W
def rdN (W : List Str) (l : List Pan) (o : Option Pan) : List Pan × Option Pan :=
 if W.getD 0 [] = wPan then (l, some (begP W)) else o.elim (l, none) fun p => if W.getD 0 [] = wEnd then (l ++ [p], none) else (l, some (edgeP W p))
def readE (line : Str) (l : List Pan) (o : Option Pan) (st : Str) : Int := rdE (readW line) (Lib.hasSuffix line [10]) l o st
def readN (line : Str) (l : List Pan) (o : Option Pan) : List Pan × Option Pan := rdN (readW line) l o
theorem trim_le (s : Str) : (Lib.trimSuffix s [10]).length ≤ s.length := by
 unfold Lib.trimSuffix
 split
 ·simp
 ·exact Nat.le_refl _
theorem read_any (base Br n : Nat) (line : Str) (l : List Pan) (o : Option Pan) (st : Str) (w : World) (hL : ∀ W, Wrt base Br w W → Lay W) (hr : RdrAt base Br n w l o st) (hline : line.length ≤ 50000) (hn : n + 1 ≤ 20000) (hcon : st = wPan ∨ st = wLeft ∨ st = wRight → o ≠ none) :
    Calls Tryz.prog 102 #[.pointer (some ⟨Br, 0, none⟩), sV line] w (fun e w' => e = .returned (.int .i64 (readE line l o st)) ∧ Wrt base Br w w' ∧ (readE line l o st = 0 → RdrAt base Br (n + 1) w' (readN line l o).1 (readN line l o).2 ((readW line).getD 0 []))) := by
  have hc1 := cutSuf_any line (by omega)
  have htl := trim_le line
  have hc2 := fun W hL => split_any (Lib.trimSuffix line [10]) (by omega) W hL
  have hws : ∀ s ∈ readW line, s.length ≤ 100000 := fun s hs => by have := wordsL_size hs; omega
  have hwl : 0 < (readW line).length := by unfold readW; rw [wordsL_len]; omega
  have hwl2 : (readW line).length ≤ 50001 := by have := wordsL_le (Lib.trimSuffix line [10]); unfold readW; omega
  have HE : Hid (readE line l o st = rdE (readW line) (Lib.hasSuffix line [10]) l o st) := rfl
  obtain ⟨E, hE⟩ : ∃ E, readE line l o st = E := ⟨_, rfl⟩
  rw [hE] at HE ⊢
  have hrw : wordsL (Lib.trimSuffix line [10]) = readW line := rfl
  rw [hrw] at hc2
  obtain ⟨tr, htr⟩ : ∃ E, Lib.trimSuffix line [10] = E := ⟨_, rfl⟩
  obtain ⟨ok, hok⟩ : ∃ E, Lib.hasSuffix line [10] = E := ⟨_, rfl⟩
  have HN : Hid (readN line l o = rdN (readW line) l o) := rfl
  obtain ⟨N, hN⟩ : ∃ E, readN line l o = E := ⟨_, rfl⟩
  rw [hN] at HN ⊢
  rw [htr] at hc1 hc2
  rw [hok] at hc1 HE
  obtain ⟨Ws, hWs⟩ : ∃ E, readW line = E := ⟨_, rfl⟩
  rw [hWs] at hc2 hws hwl hwl2 HE HN ⊢
  obtain ⟨W0, hW0⟩ : ∃ s, Ws[0]? = some s := ⟨_, List.getElem?_eq_getElem hwl⟩
  have hg0 : Ws.getD 0 [] = W0 := by rw [List.getD_eq_getElem?_getD, hW0]; rfl
  rw [hg0]
  obtain ⟨xs, vP, ⟨nm, wd, ⟨La, Ln, Lc⟩, ⟨Ra, Rn, Rc⟩⟩, wb, hBr, hrest⟩ := id hr
  simp only [slV] at hBr
  have fB := hBr.facts
  have hzb : base ≤ w.heap.size := Nat.le_trans hrest.2.2.2.1 hrest.2.2.1.size
  have hf := folMap
  clear hE hN htr hok hWs hrw htl
  unfold sV at hc1 hc2 hBr fB ⊢
  cases ok
  · have HE2 : Hid (E = 25) := by unfold Hid; rw [HE.out]; unfold rdE; rw [if_pos (.inl rfl)]
    go_enter Tryz.func102, Tryz.ntmps102
    go_upto_region 4 with (first | (go_at_call 156; refine (hc1 _).mono ?_; rintro e w1 ⟨rfl, hw1⟩; replace hw1 := hw1.symm; subst hw1) | (go_at_call 157; refine (hc2 _ (hL _ Wrt.refl)).mono ?_; rintro e w2 ⟨c2, rfl, hr2, hk1, hk2, hb2⟩; obtain ⟨X1, X2, X3, X4, p1, z1, p2, z2, p3, z3, p4, z4, hb4, hlk, k1, k2, k3, k4⟩ := hf w2; simp only [sV, pairA, tripA, wPan, wLeft, wRight, wEnd] at p1 p2 p3 p4))
    have hbw : Below w.heap.size w X4 := hb4.mono hb2.size |> hb2.trans
    refine wp_region_ords [0, 1, 2, 3, 4, 5, 6, 7, 8, 9, 10, 11] [] [12, 13, 14] (by kernel_rfl) (by kernel_rfl) (fun d _ _ _ _ h => by cases d <;> exact h) ?_
    simp only [List.map_cons, List.map_nil, List.getD_cons_zero, List.getD_cons_succ]
    repeat (go_big_quiet_step (fail))
    refine wpQuiet_nil ?_
    refine wpMid_nil ?_
    go_wp2
    go_ret
    exact ⟨by rw [HE2.out]; rfl, (Wrt.of_below hbw hzb).then_ (bl_drew bl_refl) (Nat.le_trans hzb hbw.size), fun h => by rw [HE2.out] at h; exact absurd h (by decide)⟩
  · obtain ⟨q, hq⟩ : ∃ q, decide (st ∈ folL W0) = q := ⟨_, rfl⟩
    obtain ⟨B0, hB0⟩ : ∃ B : ByteArray, ({ data := W0.toArray } : ByteArray) = B := ⟨_, rfl⟩
    have HB0 := Lib.hid hB0
    have hBl0 : B0.toList = W0 := by rw [← hB0]; simp [ByteArray.toList_eq]
    obtain ⟨tp, htp⟩ : ∃ t, (W0 == wPan) = t := ⟨_, rfl⟩
    obtain ⟨te, hte⟩ : ∃ t, (W0 == wEnd) = t := ⟨_, rfl⟩
    have g1 : (B0.toList == [112, 97, 110, 101, 108]) = tp := by rw [hBl0, ← htp]; rfl
    have g2 : (B0.toList == [101, 110, 100]) = te := by rw [hBl0, ← hte]; rfl
    have HQ := Lib.hid hq
    have HTP := Lib.hid htp
    have HTE := Lib.hid hte
    clear hB0 hBl0 htp hte hq
    cases q
    · have HE2 : Hid (E = 25) := by
        unfold Hid; rw [HE.out]; unfold rdE; rw [if_pos (.inr (by rw [hg0]; exact of_decide_eq_false HQ.out))]
      go_enter Tryz.func102, Tryz.ntmps102
      go_upto_region 4 with (first | (go_at_call 156; refine (hc1 _).mono ?_; rintro e w1 ⟨rfl, hw1⟩; replace hw1 := hw1.symm; subst hw1) | (go_at_call 157; refine (hc2 _ (hL _ Wrt.refl)).mono ?_; rintro e w2 ⟨c2, rfl, hr2, hk1, hk2, hb2⟩; obtain ⟨X1, X2, X3, X4, p1, z1, p2, z2, p3, z3, p4, z4, hb4, hlk, k1, k2, k3, k4⟩ := hf w2; simp only [sV, pairA, tripA, wPan, wLeft, wRight, wEnd] at p1 p2 p3 p4))
      have hbw : Below w.heap.size w X4 := hb4.mono hb2.size |> hb2.trans
      have hr4 := hr2.below hb4
      obtain ⟨bw, ow, hbe, hlt4, c0⟩ := hr4.str hW0
      obtain ⟨rfl, rfl⟩ : w.heap.size = bw ∧ 0 = ow := by simpa using hbe
      have hB4 := hBr.below hbw
      have fB4 := hB4.facts
      have hlkg : ∀ g : Bel X4.heap.size X4, (Instr.lookup 230 (.map (some w2.heap.size)) (.string B0) false).run Tryz.prog g.val = .ok (slV (folV w2.heap.size W0)) g.val := fun g => by rw [← HB0.out]; exact hlk W0 _ g.below
      have hct := cont_any w2.heap.size W0 st X4.drew k1.drew k2.drew k3.drew k4.drew
      rw [HQ.out] at hct
      unfold sV at hct c0
      rw [HB0.out] at c0
      simp only [Nat.add_zero] at c0
      clear p1 p2 p3 p4 z1 z2 z3 z4 hlk fB
      refine wp_region_ords [0, 1, 2, 3, 4, 5, 6, 7, 8, 9, 10, 11] [] [12, 13, 14] (by kernel_rfl) (by kernel_rfl) (fun d _ _ _ _ h => by cases d <;> exact h) ?_
      simp only [List.map_cons, List.map_nil, List.getD_cons_zero, List.getD_cons_succ]
      repeat (go_big_quiet_step (fail))
      refine wpQuiet_nil ?_
      refine wpMid_nil ?_
      go_wp2_with (go_at_call 158; refine hct.mono ?_; rintro e w5 ⟨rfl, hb5⟩)
      go_ret
      exact ⟨by rw [HE2.out]; rfl, (Wrt.of_below hbw hzb).then_ (bl_drew bl_refl |> bl_then hb5) (Nat.le_trans hzb hbw.size), fun h => by rw [HE2.out] at h; exact absurd h (by decide)⟩
    · have hw0l : W0.length ≤ 100000 := hws _ (List.mem_of_getElem? hW0)
      have hmem : st ∈ folL W0 := of_decide_eq_true HQ.out
      have HEq : Hid (E = if W0 = wPan then begE Ws l else o.elim 25 fun p => if W0 = wEnd then finE Ws l p else edgeE Ws) := by
        unfold Hid; rw [HE.out]; unfold rdE; rw [hg0, if_neg (fun h => h.elim (fun e => by cases e) (fun e => e hmem))]
      have HNq : Hid (N = if W0 = wPan then (l, some (begP Ws)) else o.elim (l, none) fun p => if W0 = wEnd then (l ++ [p], none) else (l, some (edgeP Ws p))) := by
        unfold Hid; rw [HN.out]; unfold rdN; rw [hg0]
      cases tp
      · have hnp : W0 ≠ wPan := by simpa using HTP.out
        have hst3 : st = wPan ∨ st = wLeft ∨ st = wRight := by
          unfold folL at hmem
          rw [if_neg hnp] at hmem
          split at hmem
          · simp at hmem; rcases hmem with h | h <;> simp [h]
          · split at hmem
            · simpa using hmem
            · split at hmem
              · simpa using hmem
              · simp at hmem
        obtain ⟨p, hp⟩ : ∃ p, o = some p := by
          cases o with
          | none => exact absurd rfl (hcon hst3)
          | some p => exact ⟨p, rfl⟩
        subst hp
        have HCC : ∀ p', some p = some p' → W0 = wPan ∨ W0 = wLeft → p'.2.2.2 = [] := by
          intro p' e1 e2
          cases e1
          have e3 : W0 = wLeft := e2.resolve_left hnp
          have e4 : st = wPan ∨ st = wLeft := by
            rw [e3] at hmem
            have : folL wLeft = [wPan, wLeft] := rfl
            rw [this] at hmem
            simpa using hmem
          obtain ⟨_, _, _, _, _, _, _, _, _, _, _, _, q10, _⟩ := id hr
          exact (q10 p rfl).2.2.2 e4
        cases te
        · have hne : W0 ≠ wEnd := by simpa using HTE.out
          have HE3 : Hid (E = edgeE Ws ∧ N = (l, some (edgeP Ws p))) := by
            constructor
            · rw [HEq.out, if_neg hnp]; simp only [Option.elim, if_neg hne]
            · rw [HNq.out, if_neg hnp]; simp only [Option.elim, if_neg hne]
          clear HEq HNq HE HN hmem hst3 hcon
          go_enter Tryz.func102, Tryz.ntmps102
          go_upto_region 4 with (first | (go_at_call 156; refine (hc1 _).mono ?_; rintro e w1 ⟨rfl, hw1⟩; replace hw1 := hw1.symm; subst hw1) | (go_at_call 157; refine (hc2 _ (hL _ Wrt.refl)).mono ?_; rintro e w2 ⟨c2, rfl, hr2, hk1, hk2, hb2⟩; obtain ⟨X1, X2, X3, X4, p1, z1, p2, z2, p3, z3, p4, z4, hb4, hlk, k1, k2, k3, k4⟩ := hf w2; simp only [sV, pairA, tripA, wPan, wLeft, wRight, wEnd] at p1 p2 p3 p4))
          have hbw : Below w.heap.size w X4 := hb4.mono hb2.size |> hb2.trans
          have hr4 := hr2.below hb4
          obtain ⟨bw, ow, hbe, hlt4, c0⟩ := hr4.str hW0
          obtain ⟨rfl, rfl⟩ : w.heap.size = bw ∧ 0 = ow := by simpa using hbe
          have hB4 := hBr.below hbw
          have fB4 := hB4.facts
          have hlkg : ∀ g : Bel X4.heap.size X4, (Instr.lookup 230 (.map (some w2.heap.size)) (.string B0) false).run Tryz.prog g.val = .ok (slV (folV w2.heap.size W0)) g.val := fun g => by rw [← HB0.out]; exact hlk W0 _ g.below
          have hct := cont_any w2.heap.size W0 st X4.drew k1.drew k2.drew k3.drew k4.drew
          rw [HQ.out] at hct
          unfold sV at hct c0
          rw [HB0.out] at c0
          simp only [Nat.add_zero] at c0
          clear p1 p2 p3 p4 z1 z2 z3 z4 hlk fB
          refine wp_region_ords [0, 1, 2, 3, 4, 5, 6, 7, 8, 9, 10, 11] [] [12, 13, 14] (by kernel_rfl) (by kernel_rfl) (fun d _ _ _ _ h => by cases d <;> exact h) ?_
          simp only [List.map_cons, List.map_nil, List.getD_cons_zero, List.getD_cons_succ]
          repeat (go_big_quiet_step (fail))
          refine wpQuiet_nil ?_
          refine wpMid_nil ?_
          go_upto_region 7 with (go_at_call 158; refine hct.mono ?_; rintro e w5 ⟨rfl, hb5⟩; have hB5 := (hB4.drew).below hb5; have f5 := hB5.facts; have c5 : w5.cell? ⟨w.heap.size, 0, none⟩ = some (.string B0) := (hb5.cell (p := ⟨w.heap.size, 0, none⟩) hlt4).trans c0)
          have hbw5 : Below w.heap.size w w5 := (hbw.drew).trans (hb5.mono hbw.size)
          have hr6 := (hr4.below (bl_then hb5 (bl_drew bl_refl))).chgN (Chg.refl.setIn (S := [Br]) (p := ⟨Br, 5, none⟩) (by simp) (.string B0)) (fun b off e => by
            obtain ⟨rfl, _⟩ : w.heap.size = b ∧ 0 = off := by simpa using e
            have := hBr.lt
            simp
            omega)
          have hR6 := (hr.below hbw5).state (some p) (.inr rfl) W0 hw0l HCC
          have hbz6 : Wrt base Br w (w5.setCell ⟨Br, 5, none⟩ (.string B0)) := (Wrt.of_below hbw5 hzb).set hB5 5 _
          unfold sV at hR6
          rw [HB0.out] at hR6
          obtain ⟨w6, hw6⟩ : ∃ X, w5.setCell ⟨Br, 5, none⟩ (.string B0) = X := ⟨_, rfl⟩
          rw [hw6] at hr6 hR6 hbz6 ⊢
          obtain ⟨b6, o6, hbe6, hlt6, c6⟩ := hr6.str hW0
          obtain ⟨rfl, rfl⟩ : w.heap.size = b6 ∧ 0 = o6 := by simpa using hbe6
          unfold sV at c6
          rw [HB0.out] at c6
          simp only [Nat.add_zero] at c6
          have hL6 := hL _ hbz6
          clear hw6 c5 f5 hB5 hb5 hbw5 c0 hlt4 hr4 fB4 hB4 hlkg hct k1 k2 k3 k4 hb4 hbw
          go_wp2_with (go_at_call 161; refine (edge_any base Br n Ws _ c2 l p W0 w6 hL6 hR6 hr6 (by omega) hws hn hW0 hnp).mono ?_; rintro e w7 ⟨rfl, hb7, hR7⟩)
          go_ret
          refine ⟨by rw [HE3.out.1]; rfl, hbz6.trans hb7, fun h => ?_⟩
          rw [HE3.out.2]
          exact hR7 (HE3.out.1 ▸ h)
        · have he : W0 = wEnd := by simpa using HTE.out
          have HE3 : Hid (E = finE Ws l p ∧ N = (l ++ [p], none)) := by
            constructor
            · rw [HEq.out, if_neg hnp]; simp only [Option.elim, if_pos he]
            · rw [HNq.out, if_neg hnp]; simp only [Option.elim, if_pos he]
          clear HEq HNq HE HN hmem hst3 hcon he
          go_enter Tryz.func102, Tryz.ntmps102
          go_upto_region 4 with (first | (go_at_call 156; refine (hc1 _).mono ?_; rintro e w1 ⟨rfl, hw1⟩; replace hw1 := hw1.symm; subst hw1) | (go_at_call 157; refine (hc2 _ (hL _ Wrt.refl)).mono ?_; rintro e w2 ⟨c2, rfl, hr2, hk1, hk2, hb2⟩; obtain ⟨X1, X2, X3, X4, p1, z1, p2, z2, p3, z3, p4, z4, hb4, hlk, k1, k2, k3, k4⟩ := hf w2; simp only [sV, pairA, tripA, wPan, wLeft, wRight, wEnd] at p1 p2 p3 p4))
          have hbw : Below w.heap.size w X4 := hb4.mono hb2.size |> hb2.trans
          have hr4 := hr2.below hb4
          obtain ⟨bw, ow, hbe, hlt4, c0⟩ := hr4.str hW0
          obtain ⟨rfl, rfl⟩ : w.heap.size = bw ∧ 0 = ow := by simpa using hbe
          have hB4 := hBr.below hbw
          have fB4 := hB4.facts
          have hlkg : ∀ g : Bel X4.heap.size X4, (Instr.lookup 230 (.map (some w2.heap.size)) (.string B0) false).run Tryz.prog g.val = .ok (slV (folV w2.heap.size W0)) g.val := fun g => by rw [← HB0.out]; exact hlk W0 _ g.below
          have hct := cont_any w2.heap.size W0 st X4.drew k1.drew k2.drew k3.drew k4.drew
          rw [HQ.out] at hct
          unfold sV at hct c0
          rw [HB0.out] at c0
          simp only [Nat.add_zero] at c0
          clear p1 p2 p3 p4 z1 z2 z3 z4 hlk fB
          refine wp_region_ords [0, 1, 2, 3, 4, 5, 6, 7, 8, 9, 10, 11] [] [12, 13, 14] (by kernel_rfl) (by kernel_rfl) (fun d _ _ _ _ h => by cases d <;> exact h) ?_
          simp only [List.map_cons, List.map_nil, List.getD_cons_zero, List.getD_cons_succ]
          repeat (go_big_quiet_step (fail))
          refine wpQuiet_nil ?_
          refine wpMid_nil ?_
          go_upto_region 7 with (go_at_call 158; refine hct.mono ?_; rintro e w5 ⟨rfl, hb5⟩; have hB5 := (hB4.drew).below hb5; have f5 := hB5.facts; have c5 : w5.cell? ⟨w.heap.size, 0, none⟩ = some (.string B0) := (hb5.cell (p := ⟨w.heap.size, 0, none⟩) hlt4).trans c0)
          have hbw5 : Below w.heap.size w w5 := (hbw.drew).trans (hb5.mono hbw.size)
          have hr6 := (hr4.below (bl_then hb5 (bl_drew bl_refl))).chgN (Chg.refl.setIn (S := [Br]) (p := ⟨Br, 5, none⟩) (by simp) (.string B0)) (fun b off e => by
            obtain ⟨rfl, _⟩ : w.heap.size = b ∧ 0 = off := by simpa using e
            have := hBr.lt
            simp
            omega)
          have hR6 := (hr.below hbw5).state (some p) (.inr rfl) W0 hw0l HCC
          have hbz6 : Wrt base Br w (w5.setCell ⟨Br, 5, none⟩ (.string B0)) := (Wrt.of_below hbw5 hzb).set hB5 5 _
          unfold sV at hR6
          rw [HB0.out] at hR6
          obtain ⟨w6, hw6⟩ : ∃ X, w5.setCell ⟨Br, 5, none⟩ (.string B0) = X := ⟨_, rfl⟩
          rw [hw6] at hr6 hR6 hbz6 ⊢
          obtain ⟨b6, o6, hbe6, hlt6, c6⟩ := hr6.str hW0
          obtain ⟨rfl, rfl⟩ : w.heap.size = b6 ∧ 0 = o6 := by simpa using hbe6
          unfold sV at c6
          rw [HB0.out] at c6
          simp only [Nat.add_zero] at c6
          have hL6 := hL _ hbz6
          clear hw6 c5 f5 hB5 hb5 hbw5 c0 hlt4 hr4 fB4 hB4 hlkg hct k1 k2 k3 k4 hb4 hbw
          go_wp2_with (go_at_call 160; refine (finish_any base Br n Ws _ c2 l p W0 w6 hR6 hn).mono ?_; rintro e w7 ⟨rfl, hb7, hR7⟩)
          go_ret
          refine ⟨by rw [HE3.out.1]; rfl, hbz6.trans hb7, fun h => ?_⟩
          rw [HE3.out.2]
          exact hR7 (HE3.out.1 ▸ h)
      · have hp : W0 = wPan := by simpa using HTP.out
        have HE3 : Hid (E = begE Ws l ∧ N = (l, some (begP Ws))) := by
          constructor
          · rw [HEq.out, if_pos hp]
          · rw [HNq.out, if_pos hp]
        have HCC : ∀ p', (none : Option Pan) = some p' → W0 = wPan ∨ W0 = wLeft → p'.2.2.2 = [] := fun p' e => by cases e
        clear HEq HNq HE HN hmem hcon hp
        go_enter Tryz.func102, Tryz.ntmps102
        go_upto_region 4 with (first | (go_at_call 156; refine (hc1 _).mono ?_; rintro e w1 ⟨rfl, hw1⟩; replace hw1 := hw1.symm; subst hw1) | (go_at_call 157; refine (hc2 _ (hL _ Wrt.refl)).mono ?_; rintro e w2 ⟨c2, rfl, hr2, hk1, hk2, hb2⟩; obtain ⟨X1, X2, X3, X4, p1, z1, p2, z2, p3, z3, p4, z4, hb4, hlk, k1, k2, k3, k4⟩ := hf w2; simp only [sV, pairA, tripA, wPan, wLeft, wRight, wEnd] at p1 p2 p3 p4))
        have hbw : Below w.heap.size w X4 := hb4.mono hb2.size |> hb2.trans
        have hr4 := hr2.below hb4
        obtain ⟨bw, ow, hbe, hlt4, c0⟩ := hr4.str hW0
        obtain ⟨rfl, rfl⟩ : w.heap.size = bw ∧ 0 = ow := by simpa using hbe
        have hB4 := hBr.below hbw
        have fB4 := hB4.facts
        have hlkg : ∀ g : Bel X4.heap.size X4, (Instr.lookup 230 (.map (some w2.heap.size)) (.string B0) false).run Tryz.prog g.val = .ok (slV (folV w2.heap.size W0)) g.val := fun g => by rw [← HB0.out]; exact hlk W0 _ g.below
        have hct := cont_any w2.heap.size W0 st X4.drew k1.drew k2.drew k3.drew k4.drew
        rw [HQ.out] at hct
        unfold sV at hct c0
        rw [HB0.out] at c0
        simp only [Nat.add_zero] at c0
        clear p1 p2 p3 p4 z1 z2 z3 z4 hlk fB
        refine wp_region_ords [0, 1, 2, 3, 4, 5, 6, 7, 8, 9, 10, 11] [] [12, 13, 14] (by kernel_rfl) (by kernel_rfl) (fun d _ _ _ _ h => by cases d <;> exact h) ?_
        simp only [List.map_cons, List.map_nil, List.getD_cons_zero, List.getD_cons_succ]
        repeat (go_big_quiet_step (fail))
        refine wpQuiet_nil ?_
        refine wpMid_nil ?_
        go_upto_region 7 with (go_at_call 158; refine hct.mono ?_; rintro e w5 ⟨rfl, hb5⟩; have hB5 := (hB4.drew).below hb5; have f5 := hB5.facts; have c5 : w5.cell? ⟨w.heap.size, 0, none⟩ = some (.string B0) := (hb5.cell (p := ⟨w.heap.size, 0, none⟩) hlt4).trans c0)
        have hbw5 : Below w.heap.size w w5 := (hbw.drew).trans (hb5.mono hbw.size)
        have hr6 := (hr4.below (bl_then hb5 (bl_drew bl_refl))).chgN (Chg.refl.setIn (S := [Br]) (p := ⟨Br, 5, none⟩) (by simp) (.string B0)) (fun b off e => by
          obtain ⟨rfl, _⟩ : w.heap.size = b ∧ 0 = off := by simpa using e
          have := hBr.lt
          simp
          omega)
        have hR6 := (hr.below hbw5).state none (.inl rfl) W0 hw0l HCC
        have hbz6 : Wrt base Br w (w5.setCell ⟨Br, 5, none⟩ (.string B0)) := (Wrt.of_below hbw5 hzb).set hB5 5 _
        unfold sV at hR6
        rw [HB0.out] at hR6
        obtain ⟨w6, hw6⟩ : ∃ X, w5.setCell ⟨Br, 5, none⟩ (.string B0) = X := ⟨_, rfl⟩
        rw [hw6] at hr6 hR6 hbz6 ⊢
        obtain ⟨b6, o6, hbe6, hlt6, c6⟩ := hr6.str hW0
        obtain ⟨rfl, rfl⟩ : w.heap.size = b6 ∧ 0 = o6 := by simpa using hbe6
        unfold sV at c6
        rw [HB0.out] at c6
        simp only [Nat.add_zero] at c6
        have hL6 := hL _ hbz6
        clear hw6 c5 f5 hB5 hb5 hbw5 c0 hlt4 hr4 fB4 hB4 hlkg hct k1 k2 k3 k4 hb4 hbw
        go_wp2_with (go_at_call 159; refine (begin_any base Br n Ws _ c2 l none W0 w6 hL6 hR6 hr6 (by omega) hws hn).mono ?_; rintro e w7 ⟨rfl, hb7, hR7⟩)
        go_ret
        refine ⟨by rw [HE3.out.1]; rfl, hbz6.trans hb7, fun h => ?_⟩
        rw [HE3.out.2]
        exact hR7 (HE3.out.1 ▸ h)
def parP : List Str → List Pan → Option Pan → Str → Nat → List Pan × Int × Int
 | [], l, _, st, k => if st ≠ [] ∧ st ≠ wEnd then ([], (k : Int), 28) else (l, 0, 0)
 | x :: r, l, o, st, k => if readE x l o st = 0 then parP r (readN x l o).1 (readN x l o).2 ((readW x).getD 0 []) (k + 1) else ([], (k : Int), readE x l o st)
def parR (s : Str) : List Pan × Int × Int := if 16384 < s.length then ([], 0, 26) else parP (linesL s) [] none [] 0
theorem read_con {x : Str} {l : List Pan} {o : Option Pan} {st : Str} (hcon : st = wPan ∨ st = wLeft ∨ st = wRight → o ≠ none) (h : readE x l o st = 0) :
  (readW x).getD 0 [] = wPan ∨ (readW x).getD 0 [] = wLeft ∨ (readW x).getD 0 [] = wRight → (readN x l o).2 ≠ none := by
 intro hw
 unfold readN rdN
 by_cases h1 : (readW x).getD 0 [] = wPan
 ·rw [if_pos h1]; simp
 ·rw [if_neg h1]
  have h2 : (readW x).getD 0 [] ≠ wEnd := by
   rcases hw with h | h | h <;> rw [h] <;> decide
  unfold readE rdE at h
  split at h
  ·exact absurd h (by decide)
  ·cases o with
   | none => simp at h
   | some p => simp only [Option.elim, if_neg h2]; simp
theorem RdrAt.start {base Br : Nat} {W : World} (h : Blk W Br 172 #[.slice none 0 0, .string ⟨#[]⟩, .int .i64 0, .slice none 0 0, .slice none 0 0, .string ⟨#[]⟩]) (hb : base ≤ W.heap.size) : RdrAt base Br 0 W [] none [] :=
 ⟨[], .slice none 0 0, ([], 0, (none, 0, 0), (none, 0, 0)), W, h, Own.nil_, trivial, Kpt.refl, hb, trivial, Nat.le_refl _, by omega, (fun p e => by cases e), by simp⟩
def RPP (w : World) (r : List Pan × Int × Int) (e : Ending) (w' : World) : Prop :=
 ∃ v, e = .returned (.tuple #[v, .int .i64 r.2.1, .int .i64 r.2.2]) ∧ SlP w' v r.1 ∧ Below w.heap.size w w'
theorem parse_long (s : Str) (w : World) (hs : 16384 < s.length) : Calls Tryz.prog 37 #[sV s] w (RPP w (parR s)) := by
 have HP : Hid (parR s = ([], 0, 26)) := by unfold Hid parR; rw [if_pos hs]
 have t1 : (16384 < (s.length : Int)) = True := eq_true (by omega)
 clear hs
 go_enter Tryz.func37, Tryz.ntmps37
 simp only [show sV s = Value.string { data := s.toArray } from rfl]
 go_wp2
 apply wp_scope_straight
 go_wp2
 rw [Exit.noGoto_ret]
 go_ret3
 exact ⟨_, by rw [HP.out]; rfl, by rw [HP.out]; exact ⟨[], ⟨none, 0, rfl, by simp, by simp [maxLen], fun i x hx => by simp at hx⟩, trivial⟩, by (repeat first|exact J0|assumption|(apply J1;assumption)|apply J2|apply J3|apply J4)⟩
section
variable {P : Program} {F : Fence} {n : Nat} {b : Frame} {a : Act} {k : List Item} {cs : List Frame} {w : World} {Q : Exit → Act → World → Prop}
theorem stepR_scope {c : Code} : step P (lone (b.atR a (.code (.scope c) :: k)) cs w) = .next (lone (b.atR a (.code c :: .inScope c :: k)) cs w) :=
 step_lone_go (by simp [stepG, stepG.exec, Frame.atR])
theorem stepR_inScope {c : Code} : step P (lone (b.atR a (.inScope c :: k)) cs w) = .next (lone (b.atR a k) cs w) :=
 step_lone_go (by simp [stepG, stepG.exec, Frame.atR])
theorem wpIn_scope_straight {c : Code} (h : c.wpIn F n P (Exit.noGoto Q) a w) : (Code.scope c).wpIn F n P Q a w := by
 intro b k cs hro hb hr
 have h0 : (lone (b.atR a (.code (.scope c) :: k)) cs w).fenced P F := fenced_calm hb hr rfl
 obtain ⟨e, a₁, w₁, hq, harr⟩ := h b (.inScope c :: k) cs hro hb hr
 cases e with
 | normal => exact ⟨.normal, a₁, w₁, hq, .head h0 stepR_scope (StepsIn.trans harr (.one (fenced_calm hb hr rfl) stepR_inScope))⟩
 | exit id =>
  have hx : exitTo id (.inScope c :: k) = exitTo id k := by simp [exitTo]
  exact ⟨.exit id, a₁, w₁, hq, fun k' hk => .head h0 stepR_scope (harr.1 k' (by rw [hx]; exact hk)),
   fun hr' hk => let ⟨k₁, h1, h2⟩ := harr.2 hr' (by rw [hx]; exact hk); ⟨k₁, h1, .head h0 stepR_scope h2⟩⟩
 | goto l => exact hq.elim
 | ret => exact ⟨_, a₁, w₁, hq, .of_steps (.one h0 stepR_scope) harr⟩
 | panic ch => exact ⟨_, a₁, w₁, hq, .of_steps (.one h0 stepR_scope) harr⟩
 | outgrown => exact ⟨_, a₁, w₁, hq, .of_steps (.one h0 stepR_scope) harr⟩
end
end Go.Proofs.YtkkefahobjlagaaGreatDoor
