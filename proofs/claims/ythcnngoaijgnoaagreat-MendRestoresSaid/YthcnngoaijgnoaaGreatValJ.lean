/- Valid torn nets of the statements, walked; a store in a region that draws its order. Conditions: slices that read as lists. -/
import Derived.Test.YthcnngoaijgnoaaGreatK11
import Derived.Test.YthcnngoaijgnoaaGreatLw5J
import Derived.Test.YthcnngoaijgnoaaGreatPldJ
namespace Go.Proofs.YthcnngoaijgnoaaGreat
open Go.RowKit Go.ChangeMaps
set_option maxHeartbeats 4000000
set_option maxRecDepth 100000

def vldB (N D : List Bar) (n : Int) : Bool := (decide ((N.length : Int) ≤ n) && decide ((D.length : Int) ≤ n)) && decide (tornE N D = 0)
theorem valid_any {v u : Value} (N D : List Bar) (n : Int) (w : World) (hN : SlB w v N) (hD : SlB w u D) : Calls Tryz.prog 30 #[.agg #[v, u], .int .i64 n] w (RV w (.bool (vldB N D n))) := by
  have hB := Blk.new w 24 #[v, u]
  have fhB := hB.facts
  have hsh := fun W (hN : SlB W v N) (hD : SlB W u D) => short_any N D n W hN hD
  obtain ⟨q, hq⟩ : ∃ q, (decide ((N.length : Int) ≤ n) && decide ((D.length : Int) ≤ n)) = q := ⟨_, rfl⟩
  have HV : Hid (vldB N D n = (q && decide (tornE N D = 0))) := by unfold Hid vldB; rw [hq]
  simp only [hq] at hsh
  clear hq
  cases q
  · go_enter Tryz.func30, Tryz.ntmps30
    go_wp2_with fail
    refine (hsh _ (hN.below (by (repeat (first | exact bl_refl | assumption | (apply bl_then; assumption) | refine bl_alloc ?_ _ | refine bl_drew ?_ | refine bl_drewN ?_ _)))) (hD.below (by (repeat (first | exact bl_refl | assumption | (apply bl_then; assumption) | refine bl_alloc ?_ _ | refine bl_drew ?_ | refine bl_drewN ?_ _))))).mono ?_
    rintro e w1 ⟨rfl, hb1⟩
    replace hB := hB.below (show Below _ _ w1 by (repeat (first | exact bl_refl | assumption | (apply bl_then; assumption) | refine bl_alloc ?_ _ | refine bl_drew ?_ | refine bl_drewN ?_ _)))
    replace fhB := hB.facts
    go_wp2
    go_ret
    exact ⟨by rw [HV.out]; rfl, by (repeat (first | exact bl_refl | assumption | (apply bl_then; assumption) | refine bl_alloc ?_ _ | refine bl_drew ?_ | refine bl_drewN ?_ _))⟩
  · obtain ⟨t, ht⟩ : ∃ t, (tornE N D == 0) = t := ⟨_, rfl⟩
    have HT : Hid (vldB N D n = t) := by unfold Hid; rw [HV.out, ← ht, Bool.eq_iff_iff]; simp
    go_enter Tryz.func30, Tryz.ntmps30
    go_wp2_with fail
    refine (hsh _ (hN.below (by (repeat (first | exact bl_refl | assumption | (apply bl_then; assumption) | refine bl_alloc ?_ _ | refine bl_drew ?_ | refine bl_drewN ?_ _)))) (hD.below (by (repeat (first | exact bl_refl | assumption | (apply bl_then; assumption) | refine bl_alloc ?_ _ | refine bl_drew ?_ | refine bl_drewN ?_ _))))).mono ?_
    rintro e w1 ⟨rfl, hb1⟩
    replace hB := hB.below (show Below _ _ w1 by (repeat (first | exact bl_refl | assumption | (apply bl_then; assumption) | refine bl_alloc ?_ _ | refine bl_drew ?_ | refine bl_drewN ?_ _)))
    replace fhB := hB.facts
    go_wp2_with fail
    refine (rtorn_any N D _ (hN.below (by (repeat (first | exact bl_refl | assumption | (apply bl_then; assumption) | refine bl_alloc ?_ _ | refine bl_drew ?_ | refine bl_drewN ?_ _)))) (hD.below (by (repeat (first | exact bl_refl | assumption | (apply bl_then; assumption) | refine bl_alloc ?_ _ | refine bl_drew ?_ | refine bl_drewN ?_ _))))).mono ?_
    rintro e w2 ⟨rfl, hb2⟩
    replace hB := hB.below (show Below _ _ w2 by (repeat (first | exact bl_refl | assumption | (apply bl_then; assumption) | refine bl_alloc ?_ _ | refine bl_drew ?_ | refine bl_drewN ?_ _)))
    replace fhB := hB.facts
    go_wp2
    go_ret
    exact ⟨by rw [HT.out]; rfl, by (repeat (first | exact bl_refl | assumption | (apply bl_then; assumption) | refine bl_alloc ?_ _ | refine bl_drew ?_ | refine bl_drewN ?_ _))⟩
theorem vld_ok {N D : List Bar} {n : Int} (h : vldB N D n = true) : ((N.length : Int) ≤ n ∧ (D.length : Int) ≤ n) ∧ tornE N D = 0 := by
  unfold vldB at h
  simpa using h
theorem op_store_blk {o : Oper} {a : Act} {K : Act → World → Prop} {Q : Exit → Act → World → Prop} {w : World} {g : Nat} {t : TypeId} {cs cells : Array Value} (h : Blk w g t cs) (ty : TypeId) (x y : Operand) (ho : o.op = .store ty x y)
    (hx : a.eval x = .pointer (some ⟨g, 0, none⟩)) (hy : a.eval y = .agg cells) (hsz : cells.size = cs.size) (hi : (Tryz.prog.info? ty).map (·.size) = some cells.size) (h1 : cells.all (·.oneCell') = true)
    (hK : ∀ W', Blk W' g t cells → Chg [g] w W' → K (a.put o.dst undef) W') : o.wp Tryz.prog a w K Q := by
  obtain ⟨W', hr, h2, h3⟩ := h.store_ (P := Tryz.prog) ty hsz hi h1
  unfold Oper.wp execOp
  simp only [ho, hx, hy, Instr.storeAt, Instr.sureAddr, Sem.run_bind, Sem.run_pure, Result.andThen_ok, hr]
  exact hK W' h2 h3
theorem chg_bl {w W W' : World} {g : Nat} (h : Below w.heap.size w W) (hc : Chg [g] W W') (hg : w.heap.size ≤ g) : Below w.heap.size w W' :=
  ((Chg.of_below (S := [g]) h).trans hc).below (by simp; exact hg) (Nat.le_refl _)
theorem seam_sub {v u z : Value} (N D P : List Bar) (h : tornE N D = 0) (hs : P.Sublist D) (w : World) (hN : SlB w v N) (hD : SlB w u D) (hP : SlB w z P) : Calls Tryz.prog 35 #[.agg #[v, u], z] w (RTE w N (wout D P) 0) := by
  have h1 := patch_sub h hs
  have := seam_any N D P w hN hD hP
  rwa [h1, show seamN N D P = N by unfold seamN; rw [if_pos h1], show seamD N D P = wout D P by unfold seamD; rw [if_pos h1]] at this
theorem torn_sub {N D P : List Bar} (h : tornE N D = 0) (hs : P.Sublist D) : tornE N P = 0 := by
  have h1 := netE_sub (torn_nets h).2 hs
  have hok := torn_ok h
  unfold tornE
  rw [(torn_nets h).1, h1, unk_sub fun b hb => hok.sub b (hs.subset hb)]
  rfl
theorem wout_sub (D P : List Bar) : (wout D P).Sublist D := List.filter_sublist
end Go.Proofs.YthcnngoaijgnoaaGreat
