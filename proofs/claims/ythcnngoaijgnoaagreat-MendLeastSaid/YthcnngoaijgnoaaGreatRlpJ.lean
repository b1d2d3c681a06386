/- The trimming by rule, of the program, walked. Conditions: slices that read as lists. -/
import Derived.Test.YthcnngoaijgnoaaGreatK11
import Derived.Test.YthcnngoaijgnoaaGreatRudJ
namespace Go.Proofs.YthcnngoaijgnoaaGreat
open Go.RowKit Go.ChangeMaps
set_option maxHeartbeats 8000000
set_option maxRecDepth 100000

def ruleE (N D : List Bar) : Int := if tornE N D = 0 then (if (ruleO N D).isSome then 0 else 23) else tornE N D
def ruleL (N D : List Bar) : List Bar := if ruleE N D = 0 then (ruleO N D).getD [] else []
/-- what a round of the rule knows of the bars -/
structure RlI (n : Nat) (S D : List Bar) : Prop where
  okD : ∀ b ∈ D, BarOk b
  okS : ∀ b ∈ S, BarOk b
  dis : ∀ b ∈ S, b ∉ D
  lenD : D.length ≤ n
  lenS : S.length ≤ 100000
theorem RlI.step {n : Nat} {S D : List Bar} {b : Bar} (h : RlI n S D) (hb : b ∈ S) : RlI (n + 1) (wout S [b]) (D ++ [b]) where
  okD := fun x hx => by
    rcases List.mem_append.1 hx with hx | hx
    · exact h.okD x hx
    · rw [List.mem_singleton] at hx; subst hx; exact h.okS _ hb
  okS := fun x hx => h.okS x (wout_mem.1 hx).1
  dis := fun x hx hm => by
    obtain ⟨h1, h2⟩ := wout_mem.1 hx
    rcases List.mem_append.1 hm with hm | hm
    · exact h.dis x h1 hm
    · exact h2 hm
  lenD := by have := h.lenD; simp; omega
  lenS := by have := h.lenS; have := wout_len S [b]; omega
theorem chg_grown {W W' : World} {row : Option Nat} (h : W.grownBy W' row) : Chg row.toList W W' :=
  ⟨h.os, h.tape, h.output, h.size, fun k hk hn => h.block k hk (fun e => hn (by simp [← e]))⟩
theorem srtB_nil : srtB [] = [] := List.eq_nil_iff_forall_not_mem.2 fun x h => by rw [srtB_mem] at h; cases h
theorem rule_f (N D : List Bar) (f : Nat) : ruleF N f D [] = (ruleP f (wout N D) D []).map srtB := by
  have h := rule_eq N f D D [] (fun _ => Iff.rfl) rfl List.nodup_nil (by simp)
  rw [srtB_nil] at h
  exact h.symm
theorem rule_O {N D : List Bar} : ruleO N D = (ruleP 33 (wout N D) D []).map srtB := rule_f N D 33

theorem rule_any {v u : Value} (N D : List Bar) (w : World) (hN : SlB w v N) (hD : SlB w u D) : Calls Tryz.prog 70 #[.agg #[v, u]] w (RBE w (ruleL N D) (ruleE N D)) := by
  have hB := Blk.new w 32 #[v, u]
  have hN0 := hN.alloc (.cells #[v, u] 32)
  have hD0 := hD.alloc (.cells #[v, u] 32)
  by_cases hE0 : tornE N D = 0
  · have hE' : (tornE N D != 0) = false := by rw [hE0]; rfl
    have hok := torn_ok hE0
    have HS : Hid (ruleE N D = if (ruleO N D).isSome then 0 else 23) := by unfold Hid ruleE; rw [if_pos hE0]
    have HL : Hid (ruleL N D = if ruleE N D = 0 then (ruleO N D).getD [] else []) := rfl
    have HO := Lib.hid (rule_O (N := N) (D := D))
    have hnl := hok.lens.1
    have hI0 : RlI 5000 (wout N D) D := ⟨hok.dam.ok, fun b hb => hok.net.ok b (wout_mem.1 hb).1, fun b hb => (wout_mem.1 hb).2, by have := hok.dam.len; omega, by have := wout_len N D; omega⟩
    clear hE0
    go_enter Tryz.func70, Tryz.ntmps70
    go_wp2_with (go_at_call 57; refine (mtorn_any N D _ hN0 hD0).mono ?_; rintro e w4 ⟨rfl, hb4⟩; (first | replace hB := hB.st0 hb4 | replace hB := hB.st1 hb4 | replace hB := hB.std hb4 | replace hB := hB.std1 hb4 | replace hB := hB.st2 hb4 | replace hB := hB.std2 hb4 | replace hB := hB.st3 hb4); have kB := hB.facts; (first | replace hN0 := hN0.st0 hb4 | replace hN0 := hN0.st1 hb4 | replace hN0 := hN0.std hb4 | replace hN0 := hN0.std1 hb4 | replace hN0 := hN0.st2 hb4 | replace hN0 := hN0.std2 hb4 | replace hN0 := hN0.st3 hb4); (first | replace hD0 := hD0.st0 hb4 | replace hD0 := hD0.st1 hb4 | replace hD0 := hD0.std hb4 | replace hD0 := hD0.std1 hb4 | replace hD0 := hD0.st2 hb4 | replace hD0 := hD0.std2 hb4 | replace hD0 := hD0.st3 hb4))
    have hbw4 : Below w.heap.size w w4 := by (repeat (first | exact bl_refl | assumption | (apply bl_then; assumption) | refine bl_alloc ?_ _ | refine bl_drew ?_ | refine bl_drewN ?_ _))
    refine wp_region_ords [0, 1, 3, 4, 5, 6] [(2, false)] [7, 8, 9] (by kernel_rfl) (by kernel_rfl) (fun d _ _ _ _ h => by cases d <;> exact h) ?_
    simp only [List.map_cons, List.map_nil, List.getD_cons_zero, List.getD_cons_succ]
    repeat (go_big_quiet_step (fail))
    refine wpQuiet_nil ?_
    refine wpMid_run rfl (fun K hK => ?_)
    go_simp
    refine (newHole_any D _ hD0.drew hok.dam.nodup hok.dam.ok).mono ?_
    rintro e w5 ⟨h, rb, rk, rfl, hh5, hrb5, hrk5, H5, hb5⟩
    refine hK _ _ (by (repeat (first | exact bl_refl | assumption | (apply bl_then; assumption) | refine bl_alloc ?_ _ | refine bl_drew ?_ | refine bl_drewN ?_ _))) ?_
    clear hK K
    (first | replace hB := hB.st0 hb5 | replace hB := hB.st1 hb5 | replace hB := hB.std hb5 | replace hB := hB.std1 hb5 | replace hB := hB.st2 hb5 | replace hB := hB.std2 hb5 | replace hB := hB.st3 hb5)
    have kB := hB.facts
    (first | replace hN0 := hN0.st0 hb5 | replace hN0 := hN0.st1 hb5 | replace hN0 := hN0.std hb5 | replace hN0 := hN0.std1 hb5 | replace hN0 := hN0.st2 hb5 | replace hN0 := hN0.std2 hb5 | replace hN0 := hN0.st3 hb5)
    (first | replace hD0 := hD0.st0 hb5 | replace hD0 := hD0.st1 hb5 | replace hD0 := hD0.std hb5 | replace hD0 := hD0.std1 hb5 | replace hD0 := hD0.st2 hb5 | replace hD0 := hD0.std2 hb5 | replace hD0 := hD0.st3 hb5)
    refine wpMid_nil ?_
    go_wp2_with (go_at_call 97; refine (without_any N D _ hN0 hD0 hnl).mono ?_; rintro e w6 ⟨v6, rfl, hown6, hb6⟩)
    have H6 := H5.below hb6
    have hbw6 : Below w.heap.size w w6 := by (repeat (first | exact bl_refl | assumption | (apply bl_then; assumption) | refine bl_alloc ?_ _ | refine bl_drew ?_ | refine bl_drewN ?_ _))
    have h56 := hb6.size
    have hhlt := H5.blk.lt
    have hrblt : rb < w5.heap.size := by obtain ⟨_, _, hm, _⟩ := H5.bars; exact hm.lt
    have hrklt : rk < w5.heap.size := by obtain ⟨_, _, hm, _⟩ := H5.knots; exact hm.lt
    have hw4 := hbw4.size
    simp only [World.size_drew] at hh5 hrb5 hrk5
    go_loopw [6, 8] (fun s o wr => ∃ (S' D' out : List Bar), out.length ≤ 32 ∧ Hid (ruleP 33 (wout N D) D [] = ruleP (33 - out.length) S' D' out) ∧ RlI (5000 + out.length) S' D' ∧ HoleAt wr h rb rk D' ∧ OwB w5.heap.size wr s S' ∧ OwB w5.heap.size wr o out ∧ (∀ k, s.ownBlock = some k → o.ownBlock ≠ some k) ∧ Below w.heap.size w wr ∧ w5.heap.size ≤ wr.heap.size) (fun _ o _ => 33 - lenOf o)
    case atStart => exact ⟨_, D, [], by simp, rfl, hI0, H6, hown6, Own.nil_, by simp [Value.ownBlock], hbw6, h56⟩
    case round =>
      clear hown6 H6 hbw6 H5 hB hN0 hD0 hI0
      obtain ⟨S', D', out, hlo, HR, hI, H, hs, ho, hne, hbw, hsz⟩ := hrel
      obtain ⟨As, cs, rfl⟩ := hs.shape
      obtain ⟨Ao, co, rfl⟩ := ho.shape
      have hlD := hI.lenD
      have hlS := hI.lenS
      have hrd := fun W (hW : HoleAt W h rb rk D') => ready_any h rb rk D' W hW hI.okD (by omega)
      have hch := fun W (hW : HoleAt W h rb rk D') hS => ruled_any (v := .slice As S'.length cs) h rb rk D' S' W hW hS hI.okD hI.okS hI.dis (by omega)
      obtain ⟨f, hf⟩ : ∃ f, 33 - out.length = f + 1 := ⟨32 - out.length, by omega⟩
      have HU : Hid (ruleP 33 (wout N D) D [] = if rdyB D' then some out else match chosenB D' S' with | none => none | some b => ruleP (32 - out.length) (wout S' [b]) (D' ++ [b]) (out ++ [b])) := by
        unfold Hid
        rw [HR.out, hf, show 32 - out.length = f by omega]; rfl
      have hcm : ∀ b, chosenB D' S' = some b → b ∈ S' := fun b hb => chosen_mem hb
      obtain ⟨q, hq⟩ : ∃ q, rdyB D' = q := ⟨_, rfl⟩
      obtain ⟨ch, hchv⟩ : ∃ c, chosenB D' S' = c := ⟨_, rfl⟩
      simp only [hq, hchv] at hrd hch HU hcm
      clear hq hchv hf
      have hsr := hs.rd bc_len
      cases q
      · cases ch with
        | none =>
          have HE : Hid (ruleE N D = 23 ∧ ruleL N D = []) := by
            have h1 : ruleE N D = 23 := by rw [HS.out, HO.out, HU.out]; rfl
            exact ⟨h1, by rw [HL.out, h1]; rfl⟩
          simp only [optB] at hch
          go_wp2_with fail
          refine (hrd _ H).mono ?_
          rintro e w7 ⟨rfl, hb7⟩
          go_wp2_with fail
          refine (hch _ (H.below hb7) (hsr.below hb7)).mono ?_
          rintro e w8 ⟨rfl, hb8⟩
          go_wp2
          go_ret2
          exact ⟨.slice none 0 0, by rw [HE.out.1]; rfl, by rw [HE.out.2]; exact Own.nil_, by (repeat (first | exact bl_refl | assumption | (apply bl_then; assumption) | refine bl_alloc ?_ _ | refine bl_drew ?_ | refine bl_drewN ?_ _))⟩
        | some b =>
          obtain ⟨x, y, t⟩ := b
          have hbS := hcm _ rfl
          have hbo := hI.okS _ hbS
          have hbD := hI.dis _ hbS
          simp only [optB] at hch
          by_cases h32 : out.length = 32
          · have HE : Hid (ruleE N D = 23 ∧ ruleL N D = []) := by
              have h1 : ruleE N D = 23 := by rw [HS.out, HO.out, HU.out, h32]; rfl
              exact ⟨h1, by rw [HL.out, h1]; rfl⟩
            have h32' : ((out.length : Int) == 32) = true := by rw [h32]; rfl
            clear h32
            go_wp2_with fail
            refine (hrd _ H).mono ?_
            rintro e w7 ⟨rfl, hb7⟩
            go_wp2_with fail
            refine (hch _ (H.below hb7) (hsr.below hb7)).mono ?_
            rintro e w8 ⟨rfl, hb8⟩
            go_wp2
            go_ret2
            exact ⟨.slice none 0 0, by rw [HE.out.1]; rfl, by rw [HE.out.2]; exact Own.nil_, by (repeat (first | exact bl_refl | assumption | (apply bl_then; assumption) | refine bl_alloc ?_ _ | refine bl_drew ?_ | refine bl_drewN ?_ _))⟩
          · have h32' : ((out.length : Int) == 32) = false := beq_false_of_ne (by omega)
            have HI' := Lib.hid (hI.step hbS)
            have hlo2 : out.length + 1 ≤ 32 := by omega
            clear h32 hcm
            go_wp2_with fail
            refine (hrd _ H).mono ?_
            rintro e w7 ⟨rfl, hb7⟩
            go_wp2_with fail
            refine (hch _ (H.below hb7) (hsr.below hb7)).mono ?_
            rintro e w8 ⟨rfl, hb8⟩
            have hb78 : Below wr.heap.size wr w8 := by (repeat (first | exact bl_refl | assumption | (apply bl_then; assumption) | refine bl_alloc ?_ _ | refine bl_drew ?_ | refine bl_drewN ?_ _))
            have H8 := H.below hb78
            have hs8 := hs.below hb78
            have ho8 := ho.below hb78
            have hbw8 := bl_then hb78 hbw
            have hol := ho8.lt
            have hsl := hs8.lt
            have h78 := hb78.size
            have hBb := Blk.new w8 70 #[.int .i64 x, .int .i64 y, .int .i64 t]
            have fBb := hBb.facts
            have H9 := H8.below (bl_alloc bl_refl (.cells #[.int .i64 x, .int .i64 y, .int .i64 t] 70))
            have hs9 := hs8.alloc (.cells #[.int .i64 x, .int .i64 y, .int .i64 t] 70)
            have ho9 := ho8.alloc (.cells #[.int .i64 x, .int .i64 y, .int .i64 t] 70)
            clear hrd hch H hs ho hb7 hb8 hb78 hbw hsr H8 hs8 ho8
            go_wp2_with fail
            refine (add_any h rb rk D' x y t _ H9 hbo).mono ?_
            rintro e w10 ⟨rfl, H10, hc10⟩
            rw [dset_add hbD] at H10
            have hB10 := hBb.chg hc10 (by simp; omega)
            have fB10 := hB10.facts
            have hs10 := hs9.chg hc10 (by simp; omega)
            have ho10 := ho9.chg hc10 (by simp; omega)
            have hbw10 : Below w.heap.size w w10 := (((Chg.of_below (S := [rb, rk]) hbw8).alloc _).trans hc10).below (by simp; omega) (Nat.le_refl _)
            have h910 := hc10.size
            simp only [World.size_alloc] at h910
            clear hs9 ho9 H9 hBb fBb
            go_wp2_with (at_builtin; refine wpList_appB ho10 rfl _ _ rfl rfl rfl (by omega) (by omega) ?_; intro v11 w11 ho11 hgr11; obtain ⟨A11, c11, rfl⟩ := ho11.shape; have hB11 := (hB10.alloc (.cells #[.int .i64 x, .int .i64 y, .int .i64 t] 70)).grown hgr11 (fun e => by have h1 := hol _ e.symm; omega); have fB11 := hB11.facts)
            have hs11 := (hs10.alloc (.cells #[.int .i64 x, .int .i64 y, .int .i64 t] 70)).kept hgr11 (by
              cases hA : (Value.slice As S'.length cs).ownBlock with
              | none => exact .inl rfl
              | some k => exact .inr (fun e => hne k hA e.symm))
            have H11 : HoleAt w11 h rb rk (D' ++ [(x, y, t)]) := (H10.below (bl_alloc bl_refl (.cells #[.int .i64 x, .int .i64 y, .int .i64 t] 70))).chg (chg_grown hgr11) (by simp; intro e; have := (hol _ e).1; omega) (by simp; intro e; have := (hol _ e).1; omega) (by simp; intro e; have := (hol _ e).1; omega)
            have hbw11 : Below w.heap.size w w11 := bl_grown hgr11 (bl_alloc hbw10 _) (fun k e => by have := (hol _ e).1; omega)
            have hs1011 := hgr11.size
            simp only [World.size_alloc] at hs1011
            simp only [List.length_append, List.length_cons, List.length_nil, Nat.zero_add] at ho11
            have hol11 := ho11.lt
            go_wp2_with fail
            refine (without_any S' [(x, y, t)] _ ((hs11.alloc _).rd bc_len) ((own_one w11 (Nat.le_refl _) x y t).rd bc_len) hlS).mono ?_
            rintro e w12 ⟨v12, rfl, hs12, hb12⟩
            have hbA : Below w11.heap.size w11 (w11.alloc (.cells #[.int .i64 x, .int .i64 y, .int .i64 t] 70)) := bl_alloc bl_refl _
            have hb1112 := bl_then hb12 hbA
            have hs12l := hs12.lt
            have h1112 := hb1112.size
            go_wp2_with fail
            go_roundw
            case rel =>
              refine ⟨wout S' [(x, y, t)], D' ++ [(x, y, t)], out ++ [(x, y, t)], by simp; omega, ?_, ?_, H11.below hb1112, hs12.base_mono (by simp; omega), (ho11.alloc _).below hb12, ?_, bl_then hb1112 hbw11, by omega⟩
              · unfold Hid
                rw [HU.out, List.length_append, show 33 - (out.length + [(x, y, t)].length) = 32 - out.length by simp]; rfl
              · have := HI'.out
                rw [List.length_append]
                exact this
              · intro k hk e
                have h1 := (hs12l k hk).1
                have h2 := (hol11 k e).2
                simp at h1
                omega
            case measure => simp [lenOf]; omega
      · have HE : Hid (ruleE N D = 0 ∧ ruleL N D = srtB out) := by
          have h1 : ruleE N D = 0 := by rw [HS.out, HO.out, HU.out]; rfl
          exact ⟨h1, by rw [HL.out, h1, HO.out, HU.out]; rfl⟩
        go_wp2_with fail
        refine (hrd _ H).mono ?_
        rintro e w7 ⟨rfl, hb7⟩
        go_wp2_with fail
        refine (sorted_any out _ ((ho.rd bc_len).below hb7) (by omega)).mono ?_
        rintro e w8 ⟨v8, rfl, ho8, hb8⟩
        have hbw7 := bl_then hb7 hbw
        have h7 := hbw7.size
        go_wp2
        go_ret2
        exact ⟨v8, by rw [HE.out.1]; rfl, by rw [HE.out.2]; exact ho8.base_mono h7, by (repeat (first | exact bl_refl | assumption | (apply bl_then; assumption) | refine bl_alloc ?_ _ | refine bl_drew ?_ | refine bl_drewN ?_ _))⟩
  · have hE' : (tornE N D != 0) = true := by simpa using hE0
    have HS : Hid (ruleL N D = [] ∧ ruleE N D = tornE N D) := by
      have : ruleE N D = tornE N D := by unfold ruleE; rw [if_neg hE0]
      exact ⟨by unfold ruleL; rw [this, if_neg hE0], this⟩
    clear hE0
    go_enter Tryz.func70, Tryz.ntmps70
    go_wp2_with (go_at_call 57; refine (mtorn_any N D _ hN0 hD0).mono ?_; rintro e w1 ⟨rfl, hb1⟩; (first | replace hB := hB.st0 hb1 | replace hB := hB.st1 hb1 | replace hB := hB.std hb1 | replace hB := hB.std1 hb1 | replace hB := hB.st2 hb1 | replace hB := hB.std2 hb1 | replace hB := hB.st3 hb1); have kB := hB.facts; (first | replace hN0 := hN0.st0 hb1 | replace hN0 := hN0.st1 hb1 | replace hN0 := hN0.std hb1 | replace hN0 := hN0.std1 hb1 | replace hN0 := hN0.st2 hb1 | replace hN0 := hN0.std2 hb1 | replace hN0 := hN0.st3 hb1); (first | replace hD0 := hD0.st0 hb1 | replace hD0 := hD0.st1 hb1 | replace hD0 := hD0.std hb1 | replace hD0 := hD0.std1 hb1 | replace hD0 := hD0.st2 hb1 | replace hD0 := hD0.std2 hb1 | replace hD0 := hD0.st3 hb1))
    go_ret2
    exact ⟨.slice none 0 0, by rw [HS.out.2]; rfl, by rw [HS.out.1]; exact Own.nil_, by (repeat (first | exact bl_refl | assumption | (apply bl_then; assumption) | refine bl_alloc ?_ _ | refine bl_drew ?_ | refine bl_drewN ?_ _))⟩
end Go.Proofs.YthcnngoaijgnoaaGreat
