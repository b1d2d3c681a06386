/- The orders: the contract, a step. Conditions: at most 100 pieces. -/
import Derived.Test.YtpcgeihemkhkjaaGreatDoorS32
import Derived.Test.YtpcgeihemkhkjaaGreatDoorS33
import Derived.Test.YtpcgeihemkhkjaaGreatDoorS24
namespace Go.Proofs.YtpcgeihemkhkjaaGreatDoor
open Go.RowKit Go.ChangeMaps
set_option maxHeartbeats 4000000
set_option maxRecDepth 100000
attribute [local go_sem] Oper.semAt_some
attribute [local go_sem] Oper.semAt_some
structure OrdS (D : Nat) (rec : LoopState → Option Code → Loop) (T : List Nat) (Wa : World) (Ds : List Nat) (W : World) : Prop where
 rdy : Rdy D rec W
 chg : Chg T Wa W
 mks : Mks Wa.heap.size Ds W
theorem OrdS.below {D : Nat} {rec : LoopState → Option Code → Loop} {T Ds : List Nat} {Wa W W' : World} (h : OrdS D rec T Wa Ds W) (hb : Below W.heap.size W W') : OrdS D rec T Wa Ds W' :=
 ⟨h.rdy.keeps (Z84 hb), h.chg.trans (Chg.of_below hb), h.mks.below hb⟩
theorem OrdS.from {D B : Nat} {rec : LoopState → Option Code → Loop} {T Ds : List Nat} {Wa W W' : World} {row : Option Nat} (h : OrdS D rec T Wa Ds W) (hg : W.grownBy W' row) (hr : ∀ r, row = some r → B ≤ r) (hD : D + 1 < B) (hB : Wa.heap.size ≤ B) (hDs : ∀ x ∈ Ds, x < B) : OrdS D rec T Wa Ds W' := by
 refine ⟨⟨(hg.block (D + 1) (Array.getElem?_eq_some_iff.1 h.rdy.1).1 fun e => ?_).trans h.rdy.1, (hg.block D (Array.getElem?_eq_some_iff.1 h.rdy.2).1 fun e => ?_).trans h.rdy.2⟩, h.chg.then_grown hg fun k e => ?_, h.mks.nd, h.mks.ge, fun x hx => (hg.block x (h.mks.lt x hx) fun e => ?_).trans (h.mks.at_ x hx)⟩
 ·have := hr _ e.symm; omega
 ·have := hr _ e.symm; omega
 ·have := hr _ e; omega
 ·have := hr _ e.symm; have := hDs x hx; omega
theorem Zow {m m' l' : Nat} {P : Program} {l : Nat} {f : FuncId} {tmps : Array Value} {assign body : Code} {w : World} {R : Ending → World → Prop} (h : RoundIn Fence.wide m P l f tmps assign body w R) : RoundIn (Fence.wide.inRound l') m' P l f tmps assign body w R :=
 ⟨h.1, fun c cs _ => h.2 c cs (room_wide _)⟩
theorem Zox {T : List Nat} (W : World) (D : Nat) (o : Obj) : Chg ((D + 1) :: T) W (W.putObj (D + 1) o) :=
 ⟨rfl, rfl, rfl, by simp [World.putObj], fun k _ hn => World.putObj_heap_other (by rintro rfl; exact hn (by simp))⟩
theorem Zoy {n : Nat} {g : Operand} {p d : Nat} {assign body : Code} {Q : Exit → Act → World → Prop} {a : Act} {w : World} {D N k gn gb c : Nat} {bg : List Plc} {A : Option Addr} {T : List Nat} (hO : OrdC N k bg) (hD : w.heap.size = D) (hn : 2 ≤ n)
  (hg : a.eval g = .func (.func 131) #[] #[.pointer (some ⟨gb, 0, none⟩), .pointer (some ⟨gn, 0, none⟩)]) (hGn : Blk w gn 3 #[.int .i64 N]) (hGb : Blk w gb 28 #[.slice A bg.length c]) (hS : SlL w (.slice A bg.length c) bg) (hn1 : gn ∉ T) (hn2 : gb ∉ T) (hn3 : noT (.slice A bg.length c) T) (hn4 : ∀ b, (Value.slice A bg.length c).ownBlock = some b → b < D) (hT : ∀ t ∈ T, t < D)
  {I : List OrX → World → Prop} (hI : OwnFrom D I) (h0 : I [] w)
  (hassign : ∀ (x : OrX) (W : World) (K : Act → World → Prop), K { tmps := (a.tmps.setIfInBounds p x.1).setIfInBounds d x.1, defers := [] } W → assign.wpIn (Fence.wide.inRound (D + 1)) (n - 1 - 1) Tryz.prog (Exit.then K (fun _ _ _ => False)) { tmps := a.tmps.setIfInBounds p x.1, defers := [] } W)
  (hbody : ∀ (pre : List OrX) (x : OrX) (W : World), (∃ r, ordG N k bg = pre.map (·.2) ++ x.2 :: r) → SlL W x.1 x.2 → noT x.1 ((D + 1) :: T) → I pre W → body.wpIn (Fence.wide.inRound (D + 1)) (n - 1 - 1) Tryz.prog (ownPostG D (Chg ((D + 1) :: T)) I IxF (pre ++ [x]) W) { tmps := (a.tmps.setIfInBounds p x.1).setIfInBounds d x.1, defers := [] } W)
  (hdone : ∀ (xs : List OrX) (W : World), xs.map (·.2) = ordG N k bg → I xs W → W.heap[D]? = some (.deferred (some [])) → Q .normal { a with defers := { target := .collected D, args := #[] } :: a.defers } W) :
  (Code.rangeFunc g #[p] assign body).wpIn Fence.wide n Tryz.prog Q a w := by
 have hl1 : gn < D := hD ▸ hGn.lt
 have hl2 : gb < D := hD ▸ hGb.lt
 refine Za7 (Kp := Chg ((D + 1) :: T)) (I := I) (Ix := IxF) (encs := encO) (S := fun xs => xs.map (·.2) = ordG N k bg) (Pm := fun pre x W => (∃ r, ordG N k bg = pre.map (·.2) ++ x.2 :: r) ∧ SlL W x.1 x.2 ∧ noT x.1 ((D + 1) :: T)) hD rfl (by omega) hg trivial (enters_of Tryz.func131 (by kernel_rfl) rfl) (fun _ => rfl) hI (fun c s W W' row h _ _ => h.elim) (fun h h' => h.trans h') (fun W o => Zox W D o) h0
  (fun x => { tmps := (a.tmps.setIfInBounds p x.1).setIfInBounds d x.1, defers := [] }) (fun x W K hK => ?_) (fun pre x W W2 h hc => ⟨h.1, SlL.chg_ h.2.1 hc h.2.2, h.2.2⟩) (fun pre x W hi hp => ?_) (fun rec W1 hb hs2 hi hR hY => ?_) (fun xs W hx hi hd => ?_) (fun c pre W h _ => h.elim)
 ·have : (#[p].zip (encO x)).foldl (fun t (p, v) => t.setIfInBounds p v) a.tmps = a.tmps.setIfInBounds p x.1 := by simp [encO]
  rw [this]; exact hassign x W K hK
 ·exact hbody pre x W hp.1 hp.2.1 hp.2.2 hi
 ·have hb' : Below w.heap.size w W1 := hD ▸ hb
  refine (callsIn_wide.2 (hO D gn gb A c ((D + 1) :: T) I rec W1 (hGn.below hb') (hGb.below hb') (hS.below hb') ?_ ?_ ?_ ?_ List.mem_cons_self hI hR hi fun pre x W hr hi hS hn hR => Zol (hY pre x W hi ⟨hr, hS, hn⟩ hR))).mono ?_
  ·rw [List.mem_cons]; rintro (h | h); omega; exact hn1 h
  ·rw [List.mem_cons]; rintro (h | h); omega; exact hn2 h
  ·intro b hb; rw [List.mem_cons]; rintro (h | h); (have := hn4 b hb; omega); exact hn3 b hb h
  ·intro t ht; rcases List.mem_cons.1 ht with rfl | h; omega; (have := hT t h; omega)
  ·rintro e W' ⟨hv, xs, h1, h2, h3⟩
   exact ⟨hv, .inl ⟨xs, h1, h2, h3⟩⟩
 ·exact hdone xs W hx hi hd
theorem Zoz {α : Type} {F : Fence} {n : Nat} {P : Program} {enc : α → List Value} {sz bytes : Nat} {t e : TypeId} {o : Oper} {a : Act} {w : World} {K : Act → World → Prop} {Q : Exit → Act → World → Prop} (E : Elem P t e sz bytes) (henc : ∀ x, (enc x).length = sz) (hone : ∀ x, ∀ u ∈ enc x, u.oneCell' = true) (s x : Operand)
  (ho : o.op = .call { callee := .builtin .append, args := #[s, x], argTypes := #[t, t] }) (base : Nat) (v u : Value) (l r : List α) (hs : a.eval s = v) (hx : a.eval x = u) (hown : Own enc sz base e w v l) (hu : Sl enc sz w u r)
  (h63 : l.length + r.length ≤ maxLen) (hb : (l.length + r.length) * bytes ≤ 140737488355328) (hbase : base ≤ w.heap.size)
  (h : ∀ v' w', Own enc sz base e w' v' (l ++ r) → w.grownBy w' v.ownBlock → (v'.ownBlock = v.ownBlock ∨ v'.ownBlock = some w.heap.size) → K (a.put o.dst v') w') : o.wpIn F n P a w K Q := by
 obtain ⟨v', w', hr, h2, h3, h4⟩ := Zah (P := P) (t := t) E henc hone base o.type v u l r hown hu h63 hb hbase
 unfold Oper.wpIn
 refine ⟨by simp [Oper.about, ho, resolve, Target.leads, Sem.run_pure], ?_⟩
 rw [Oper.semAt_plain F _ _ (by rw [ho]; intro c hc'; cases hc')]
 simp [execOp, ho, resolve, invoke, builtin, hs, hx, hr, Result.andThen]
 exact h v' w' h2 h3 h4
theorem Zp0 (N k : Nat) (bg : List Plc) (hl : bg.length + (k + 1) = N) (hN : N ≤ 100) (ih : ∀ bg' : List Plc, bg'.length + k = N → OrdC N k bg') : OrdC N (k + 1) bg := by
 intro D gn gb A c T I rec W1 hGn hGb hS hn1 hn2 hn3 hT hDT hI hR h0 hY
 refine (callsIn_wide (n := 6)).1 ?_
 have h11 : ((bg.length : Int) == (N : Int)) = false := by simp; omega
 have hbl : bg.length ≤ 100 := by omega
 have hba := Z04 (Z03 (w := W1)) (.cells #[.func (.yield (D + 1)) #[] #[]] 204)
 have hGy := Blk.new W1 204 #[.func (.yield (D + 1)) #[] #[]]
 have hGna := hGn.below hba
 have hGba := hGb.below hba
 have hSa := hS.below hba
 have hRa := hR.keeps (Z84 (B := D) hba)
 have h0a := hI.alloc (.cells #[.func (.yield (D + 1)) #[] #[]] 204) h0
 have hnewT : ∀ b, W1.heap.size ≤ b → b ∉ T := fun b hb hm => by have := hT b hm; omega
 have hD1 : D + 1 < W1.heap.size := (Array.getElem?_eq_some_iff.1 hR.1).1
 have fGn := hGna.facts
 have fGb := hGba.facts
 have fGy := hGy.facts
 refine callsIn_of_wp_marks Tryz.func131 rfl trivial ?_ rfl
 simp only [Tryz.ntmps131, List.size_toArray, List.length_cons, List.length_nil, Nat.reduceAdd, Nat.reduceSub, Array.replicate_succ, Array.replicate_zero, List.push_toArray, List.append_toArray, List.nil_append, List.cons_append]
 gi_upto_region 3 with fail
 obtain ⟨Wa, hWa⟩ : ∃ X, W1.alloc (.cells #[.func (.yield (D + 1)) #[] #[]] 204) = X := ⟨_, rfl⟩
 obtain ⟨gy, hgy⟩ : ∃ X, W1.heap.size = X := ⟨_, rfl⟩
 have hyT : gy ∉ T := hnewT gy (Nat.le_of_eq hgy)
 have hWas : Wa.heap.size = gy + 1 := by rw [← hWa, ← hgy]; simp
 rw [hWa] at hGy hGna hGba hSa hRa h0a
 rw [hgy] at hGy hnewT hD1
 rw [hWa, hgy]
 clear hWa hgy hba hGn hGb hS hR h0 hT fGn fGb fGy
 have fGn := hGna.facts
 have fGb := hGba.facts
 gi_wp2
 refine wpIn_loop (fun a' w' => ∃ u4 u5 u6 u7 u8 u17 u18 u19 u20 u21 u22 u23 u24 u25 u26 u27 u28 u29 u30 u31 u32 u33 u34 u35 u36 u37 u38 u39 u40 u41 u42 u43 u44 u45 u46 u47 u48 u49 u50 : Value, ∃ (Ds : List Nat) (i : Nat) (xs : List OrX), (i ≤ N ∧ u17 = .int .i64 i ∧ xs.map (·.2) = donO N k bg i ∧ I xs w' ∧ OrdS D rec T Wa Ds w') ∧ a' = { tmps := #[.func (.yield (D + 1)) #[] #[], .pointer (some ⟨gb, 0, none⟩), .pointer (some ⟨gn, 0, none⟩), .pointer (some ⟨gy, 0, none⟩), u4, u5, u6, u7, u8, .slice A bg.length c, .int .i64 bg.length, .int .i64 N, .bool false, undef, undef, undef, .int .i64 N, u17, u18, u19, u20, u21, u22, u23, u24, u25, u26, u27, u28, u29, u30, u31, u32, u33, u34, u35, u36, u37, u38, u39, u40, u41, u42, u43, u44, u45, u46, u47, u48, u49, u50], defers := mrkL Ds }) (fun a' w' => N - (intOf (a'.tmps.getD 17 undef)).toNat) ?start ?round
 case start =>
  exact ⟨_, _, _, _, _, _, _, _, _, _, _, _, _, _, _, _, _, _, _, _, _, _, _, _, _, _, _, _, _, _, _, _, _, _, _, _, _, _, _, [], 0, [], ⟨Nat.zero_le _, rfl, rfl, h0a, hRa, Chg.refl, Mks.nil_⟩, rfl⟩
 case round =>
  rintro _ wr ⟨u4, u5, u6, u7, u8, u17, u18, u19, u20, u21, u22, u23, u24, u25, u26, u27, u28, u29, u30, u31, u32, u33, u34, u35, u36, u37, u38, u39, u40, u41, u42, u43, u44, u45, u46, u47, u48, u49, u50, Ds, i, xs, ⟨hi, rfl, hxs, hIx, hSt⟩, rfl⟩
  clear fGn fGb; have hGn2 := hGna.chg hSt.chg hn1
  have hGb2 := hGba.chg hSt.chg hn2
  have hGy2 := hGy.chg hSt.chg hyT
  have hS2 := SlL.chg_ hSa hSt.chg hn3
  have hsz := hSt.chg.size
  have fGn := hGn2.facts
  have fGb := hGb2.facts
  by_cases hlt : i < N
  ·obtain ⟨rr, hrr⟩ := Zof (N := N) (k := k) (bg := bg) i hlt
   have hsc := Zod (N := N) (k := k) (bg := bg) hlt
   have hX := Blk.new wr 3 #[.int .i64 i]
   gi_upto_region 6 with fail
   obtain ⟨Wb, hWb⟩ : ∃ X, wr.alloc (.cells #[.int .i64 i] 3) = X := ⟨_, rfl⟩
   obtain ⟨g4, hg4⟩ : ∃ X, wr.heap.size = X := ⟨_, rfl⟩
   have hbb : Below wr.heap.size wr Wb := by rw [← hWb]; exact Z04 Z03 _
   have hIb : I xs Wb := by rw [← hWb]; exact hI.alloc _ hIx
   have hStb := hSt.below hbb
   have hGn3 := hGn2.below hbb
   have hGb3 := hGb2.below hbb
   have hGy3 := hGy2.below hbb
   have hS3 := hS2.below hbb
   have h4T : g4 ∉ T := hnewT g4 (by omega)
   have hg4a : Wa.heap.size ≤ g4 := by omega
   rw [hWb, hg4] at hX; rw [hWb, hg4]; clear hWb hbb hGn2 hGb2 hGy2 hS2 hSt hIx fGn fGb hg4 hsz; have fGn := hGn3.facts
   have fGb := hGb3.facts
   have hrd : Rd plc 3 Wb A bg := by
    obtain ⟨A', c', e, _, _, h⟩ := hS3; simp only [Value.slice.injEq] at e; rw [e.1]; exact h
   have hcn := Zoa bg A c g4 (i : Int) Wb hrd (by omega) hX
   obtain ⟨q, hq⟩ : ∃ q, useB bg (i : Int) = q := ⟨_, rfl⟩
   have hblk : blkO N k bg i = if q = true then [] else ordG N k (bg ++ [((i : Int), false, 0)]) ++ ordG N k (bg ++ [((i : Int), true, 0)]) := by unfold blkO; rw [hq]
   rw [hq] at hcn; clear hq hrd; cases q
   ·gi_upto_region 7 with (refine ⟨trivial, ?_⟩; gi_at_call 121; refine (callsIn_wide.2 hcn).mono ?_; rintro e w6 ⟨rfl, hb6⟩)
    have hIc : I xs w6 := hI _ _ _ none hIb (Z85 hb6) (by simp)
    have hStc := hStb.below hb6
    have hGn4 := hGn3.below hb6
    have hGb4 := hGb3.below hb6
    have hGy4 := hGy3.below hb6
    have hS4 := hS3.below hb6
    have hX4 := hX.below hb6
    clear hIb hStb hGn3 hGb3 hGy3 hS3 hX hcn fGn fGb hb6; gi_wp2
    refine wpIn_loop (fun a' w' => ∃ u5 u6 u7 u8 u24 u25 u26 u27 u28 u29 u30 u31 u32 u33 u34 u35 u36 u37 u38 u39 u40 u41 u42 u43 u44 u45 u46 u47 u48 u49 u50 : Value, ∃ (Ds : List Nat) (j : Nat) (xs : List OrX), (j ≤ 2 ∧ u24 = .int .i64 j ∧ xs.map (·.2) = donO N k bg i ++ ([false, true].take j).flatMap (fun t => ordG N k (bg ++ [((i : Int), t, 0)])) ∧ I xs w' ∧ OrdS D rec T Wa Ds w' ∧ Blk w' g4 3 #[.int .i64 i]) ∧ a' = { tmps := #[.func (.yield (D + 1)) #[] #[], .pointer (some ⟨gb, 0, none⟩), .pointer (some ⟨gn, 0, none⟩), .pointer (some ⟨gy, 0, none⟩), .pointer (some ⟨g4, 0, none⟩), u5, u6, u7, u8, .slice A bg.length c, .int .i64 bg.length, .int .i64 N, .bool false, undef, undef, undef, .int .i64 N, .int .i64 i, .bool true, .int .i64 i, .slice A bg.length c, .func (.func 132) #[] #[.pointer (some ⟨g4, 0, none⟩)], .bool false, .agg #[.bool false, .bool true], u24, u25, u26, u27, u28, u29, u30, u31, u32, u33, u34, u35, u36, u37, u38, u39, u40, u41, u42, u43, u44, u45, u46, u47, u48, u49, u50], defers := mrkL Ds }) (fun a' w' => 2 - (intOf (a'.tmps.getD 24 undef)).toNat) ?start2 ?round2
    case start2 => exact ⟨_, _, _, _, _, _, _, _, _, _, _, _, _, _, _, _, _, _, _, _, _, _, _, _, _, _, _, _, _, _, _, Ds, 0, xs, ⟨Nat.zero_le _, rfl, by rw [hxs]; simp, hIc, hStc, hX4⟩, rfl⟩
    case round2 =>
     clear hIc hStc hGn4 hGb4 hGy4 hS4 hX4; clear hxs; rintro _ wr ⟨u5, u6, u7, u8, u24, u25, u26, u27, u28, u29, u30, u31, u32, u33, u34, u35, u36, u37, u38, u39, u40, u41, u42, u43, u44, u45, u46, u47, u48, u49, u50, Ds, j, xs, ⟨hj, rfl, hxs, hIx, hSt, hX⟩, rfl⟩
     have hGn2 := hGna.chg hSt.chg hn1
     have hGb2 := hGba.chg hSt.chg hn2
     have hGy2 := hGy.chg hSt.chg hyT
     have hS2 := SlL.chg_ hSa hSt.chg hn3
     have fGn := hGn2.facts
     have fGb := hGb2.facts
     have fGy := hGy2.facts
     have fX := hX.facts
     rcases (show j = 0 ∨ j = 1 ∨ j = 2 by omega) with rfl | rfl | rfl
     ·have hmk := fun W => Zoh W bg.length (by omega)
      obtain ⟨w2, hcp, hOc, hbc⟩ := Zoi wr (.slice A bg.length c) bg hS2 (by omega) 3
      have fGb1 := (hGb2.below (Z04 Z03 (.cells (rowG plc (bg.length + 1) fun _ => ((0 : Int), false, (0 : Int))) 100))).facts
      gi_upto_region 12 with fail
      obtain ⟨gN, hgN⟩ : ∃ z, wr.heap.size = z := ⟨_, rfl⟩
      have hsz2 : gN ≤ w2.heap.size := by rw [← hgN]; exact hbc.size
      have hgn : gn < gN := by rw [← hgN]; exact hGn2.lt
      have hg4 : g4 < gN := by rw [← hgN]; exact hX.lt
      have hgy : gy < gN := by rw [← hgN]; exact hGy2.lt
      have hGn3 := hGn2.below hbc
      have hGb3 := hGb2.below hbc
      have hGy3 := hGy2.below hbc
      have hS3 := hS2.below hbc
      have hX3 := hX.below hbc
      have hI3 : I xs w2 := hI _ _ _ none hIx (Z85 hbc) (by simp)
      have hSt3 := hSt.below hbc
      have hgNT : gN ∉ T := hnewT gN (by have := hSt.chg.size; omega)
      have hWaN : Wa.heap.size ≤ gN := by rw [← hgN]; exact hSt.chg.size
      have hMkN : ∀ x ∈ Ds, x < gN := by rw [← hgN]; exact hSt.mks.lt
      rw [hgN] at hOc hbc ⊢; clear fGn fGb fGy fX fGb1 hGn2 hGb2 hGy2 hS2 hmk hcp hI3 hSt3 hS3 hGy3; have fGn := hGn3.facts
      have fGb := hGb3.facts
      have fX := hX3.facts
      haveI hne : Nonempty (BelM gN w2 (fun _ => True)) := BelM.none_empty (Below.refl gN w2).drew trivial
      refine Z9v ?_
      refine Zai (gN) (fun _ => True) [0, 1, 2, 3, 4] [(5, false), (6, false)] [7] (fun _ => trivial) (by kernel_rfl) (by kernel_rfl) (by kernel_rfl) (fun _ _ _ _ _ h => h) trivial ?_
      simp only [List.map_cons, List.map_nil, List.getD_cons_zero, List.getD_cons_succ]; repeat (go_big_quiet_step (fail))
      refine wpQuiet_nil ?_; refine Zaj rfl (fun K hK => ?_)
      go_simp; refine hK _ _ (by first | exact ((Below.refl gN w2).alloc hsz2 _).drew | exact ((Below.refl gN w2).drew.alloc hsz2 _)) (trivial) ?_
      clear hK K; obtain ⟨wy, hwy⟩ : ∃ X, (w2.alloc (.cells #[.int .i64 i, .bool false, .int .i64 0] 100)).drew = X := ⟨_, rfl⟩
      obtain ⟨gp, hgp⟩ : ∃ X, w2.heap.size = X := ⟨_, rfl⟩
      have hby : Below w2.heap.size w2 wy := by rw [← hwy]; exact Z05 (Z04 Z03 _)
      have hBy : Below gN w2 wy := by rw [← hwy]; exact ((Below.refl gN w2).alloc hsz2 _).drew
      have hu : Sl plc 3 wy (.slice (some ⟨gp, 0, none⟩) 1 1) [((i : Int), false, (0 : Int))] := by
       rw [← hwy, ← hgp]; exact (Sl.oneG (enc := plc) (sz := 3) w2 100 ((i : Int), false, (0 : Int)) #[.int .i64 i, .bool false, .int .i64 0] rfl).below (Z05 Z03)
      have hOy := hOc.below hby
      have hszy : gN ≤ wy.heap.size := Nat.le_trans hsz2 hby.size
      rw [hwy, hgp]; refine Zaj rfl (fun K hK => ?_)
      refine Zoz Zja Zj7 Zj9 (.tmp 37) (.tmp 41) rfl gN (.slice (some ⟨gN, 0, none⟩) bg.length (bg.length + 1)) (.slice (some ⟨gp, 0, none⟩) 1 1) bg [((i : Int), false, (0 : Int))] rfl rfl hOy hu (by simp [maxLen]; omega) (by simp; omega) hszy ?_
      intro v9 w9 hO9 hgr9 hob9; have hB9 : Below gN w2 w9 := hBy.grown hgr9 hszy (fun j e => by have := (hOc.lt j e).1; omega)
      refine hK _ _ hB9 trivial ?_
      clear hK K; obtain ⟨A9, c9, rfl⟩ := hO9.shape; refine Z82 ?_; gi_wp2_with (refine ⟨trivial, ?_⟩; gi_at_call 62; refine (callsIn_wide.2 (Zoj N A9 _ c9 _)).mono ?_; rintro e w10 ⟨gn', gb', rfl, hGn', hGb', hge1, hge2, hb10⟩)
      simp only [Z9u]; gi_wp2_with fail
      have hs9 : gN ≤ w9.heap.size := Nat.le_trans hszy hgr9.size
      have hWr : Below gN wr w10 := hbc.trans (hB9.trans (hb10.mono hs9))
      have hWr' : Below wr.heap.size wr w10 := by rw [hgN]; exact hWr
      obtain ⟨D2, hD2⟩ : ∃ z, w10.heap.size = z := ⟨_, rfl⟩
      have hs10 : w9.heap.size ≤ D2 := by rw [← hD2]; exact hb10.size
      have hI10 : I xs w10 := hI _ _ _ none hIx (Z85 hWr') (by simp)
      have hSt10 := hSt.below hWr'
      have hX10 := hX.below hWr'
      have hO10 := hO9.below hb10
      have hlen : (bg ++ [((i : Int), false, (0 : Int))]).length = bg.length + 1 := by simp
      have hS10 := hO10.rd Zj7
      have hnl : ∀ b, (Value.slice A9 (bg ++ [((i : Int), false, (0 : Int))]).length c9).ownBlock = some b → gN ≤ b ∧ b < D2 := fun b hb => by rw [← hD2]; exact hO10.lt b hb
      have hMk : ∀ x ∈ Ds, x < D2 := fun x hx => by have := hMkN x hx; omega
      have hgyN : gy < gN := hgy
      have hTD : ∀ t ∈ T, t < D2 := fun t ht => Nat.lt_of_not_le fun h => hnewT t (by omega) ht
      have hmT : ∀ x ∈ Ds, x ∉ T := fun x hx => hnewT x (by have := hSt.mks.ge x hx; omega)
      clear fGn fGb fX hWr hWr' hIx hSt hX hbc hB9 hb10 hgr9 hOc hOy hu hBy hby hO9 hX3 hGn3 hGb3; refine Zoy (d := 8) (T := T) (I := fun (pre : List OrX) W => I (xs ++ pre) W ∧ OrdS D rec T Wa Ds W ∧ Blk W g4 3 #[.int .i64 i]) (ih (bg ++ [((i : Int), false, (0 : Int))]) (by simp; omega)) hD2 (by omega) rfl hGn' (by rw [hlen]; exact hGb') hS10 (hnewT _ (by omega)) (hnewT _ (by omega)) (fun b hb => hnewT b (by have := hnl b hb; omega)) (fun b hb => (hnl b hb).2) hTD ?hI ?h0 ?hassign ?hbody ?hdone
      case hI =>
       rintro pre W W' row ⟨h1, h2, h3⟩ hg hr
       exact ⟨hI _ _ _ row h1 hg (fun r e => ⟨by have := (hr r e).1; omega, (hr r e).2⟩), h2.from (B := D2) hg (fun r e => (hr r e).1) (by omega) (by omega) hMk, h3.grown hg (Z8b h3 hr)⟩
      case h0 => exact ⟨by rw [List.append_nil]; exact hI10, hSt10, hX10⟩
      case hassign =>
       intro x W K hK; gi_wp2
       exact hK
      case hbody =>
       rintro pre ⟨xv, xl⟩ W ⟨r, hr⟩ hSx hnx ⟨h1, h2, h3⟩
       have hGyW := hGy.chg h2.chg hyT
       have fGy := hGyW.facts
       obtain ⟨fn, tmps, assign, body, hy, hRd⟩ := hY (xs ++ pre) (xv, xl) W ⟨r ++ (ordG N k (bg ++ [((i : Int), true, 0)]) ++ rr), by rw [hrr, hblk, if_neg (by decide), List.map_append, hxs, hr]; simp⟩ h1 hSx (fun b hb h => hnx b hb (List.mem_cons_of_mem _ h)) h2.rdy
       unfold encO at hy; simp only at hy
       gi_wp2
       refine (Zow hRd).mono ?_
       rintro e W3 (⟨rfl, i1, i2, i3⟩ | ⟨rfl, c', i1, i2⟩)
       ·gi_wp2
        refine ⟨⟨i3.size, fun q o hq ho _ => (i3.block q (Array.getElem?_eq_some_iff.1 ho).1 fun hm => by have := hTD q hm; omega).trans ho⟩, i3.mono fun _ h => List.mem_cons_of_mem _ h, by rw [← List.append_assoc]; exact i1, ⟨i2, h2.chg.trans i3, h2.mks.chg i3 hmT⟩, h3.chg i3 h4T⟩
       ·exact i1.elim
      case hdone =>
       rintro ys W hys ⟨h1, h2, h3⟩ hd
       gi_wp2
       refine ⟨⟨_, _, _, _, _, _, _, _, _, _, _, _, _, _, _, _, _, _, _, _, _, _, _, _, _, _, _, _, _, _, _, D2 :: Ds, 0 + 1, xs ++ ys, ⟨by omega, by go_num, by rw [List.map_append, hxs, hys]; simp, h1, ⟨h2.rdy, h2.chg, h2.mks.cons (fun h => by have := hMk D2 h; omega) (by omega) hd⟩, h3⟩, rfl⟩, ?_⟩
       simp [intOf]
     ·have hmk := fun W => Zoh W bg.length (by omega)
      obtain ⟨w2, hcp, hOc, hbc⟩ := Zoi wr (.slice A bg.length c) bg hS2 (by omega) 3
      have fGb1 := (hGb2.below (Z04 Z03 (.cells (rowG plc (bg.length + 1) fun _ => ((0 : Int), false, (0 : Int))) 100))).facts
      gi_upto_region 12 with fail
      obtain ⟨gN, hgN⟩ : ∃ z, wr.heap.size = z := ⟨_, rfl⟩
      have hsz2 : gN ≤ w2.heap.size := by rw [← hgN]; exact hbc.size
      have hgn : gn < gN := by rw [← hgN]; exact hGn2.lt
      have hg4 : g4 < gN := by rw [← hgN]; exact hX.lt
      have hgy : gy < gN := by rw [← hgN]; exact hGy2.lt
      have hGn3 := hGn2.below hbc
      have hGb3 := hGb2.below hbc
      have hGy3 := hGy2.below hbc
      have hS3 := hS2.below hbc
      have hX3 := hX.below hbc
      have hI3 : I xs w2 := hI _ _ _ none hIx (Z85 hbc) (by simp)
      have hSt3 := hSt.below hbc
      have hgNT : gN ∉ T := hnewT gN (by have := hSt.chg.size; omega)
      have hWaN : Wa.heap.size ≤ gN := by rw [← hgN]; exact hSt.chg.size
      have hMkN : ∀ x ∈ Ds, x < gN := by rw [← hgN]; exact hSt.mks.lt
      rw [hgN] at hOc hbc ⊢; clear fGn fGb fGy fX fGb1 hGn2 hGb2 hGy2 hS2 hmk hcp hI3 hSt3 hS3 hGy3; have fGn := hGn3.facts
      have fGb := hGb3.facts
      have fX := hX3.facts
      haveI hne : Nonempty (BelM gN w2 (fun _ => True)) := BelM.none_empty (Below.refl gN w2).drew trivial
      refine Z9v ?_
      refine Zai (gN) (fun _ => True) [0, 1, 2, 3, 4] [(5, false), (6, false)] [7] (fun _ => trivial) (by kernel_rfl) (by kernel_rfl) (by kernel_rfl) (fun _ _ _ _ _ h => h) trivial ?_
      simp only [List.map_cons, List.map_nil, List.getD_cons_zero, List.getD_cons_succ]; repeat (go_big_quiet_step (fail))
      refine wpQuiet_nil ?_; refine Zaj rfl (fun K hK => ?_)
      go_simp; refine hK _ _ (by first | exact ((Below.refl gN w2).alloc hsz2 _).drew | exact ((Below.refl gN w2).drew.alloc hsz2 _)) (trivial) ?_
      clear hK K; obtain ⟨wy, hwy⟩ : ∃ X, (w2.alloc (.cells #[.int .i64 i, .bool true, .int .i64 0] 100)).drew = X := ⟨_, rfl⟩
      obtain ⟨gp, hgp⟩ : ∃ X, w2.heap.size = X := ⟨_, rfl⟩
      have hby : Below w2.heap.size w2 wy := by rw [← hwy]; exact Z05 (Z04 Z03 _)
      have hBy : Below gN w2 wy := by rw [← hwy]; exact ((Below.refl gN w2).alloc hsz2 _).drew
      have hu : Sl plc 3 wy (.slice (some ⟨gp, 0, none⟩) 1 1) [((i : Int), true, (0 : Int))] := by
       rw [← hwy, ← hgp]; exact (Sl.oneG (enc := plc) (sz := 3) w2 100 ((i : Int), true, (0 : Int)) #[.int .i64 i, .bool true, .int .i64 0] rfl).below (Z05 Z03)
      have hOy := hOc.below hby
      have hszy : gN ≤ wy.heap.size := Nat.le_trans hsz2 hby.size
      rw [hwy, hgp]; refine Zaj rfl (fun K hK => ?_)
      refine Zoz Zja Zj7 Zj9 (.tmp 37) (.tmp 41) rfl gN (.slice (some ⟨gN, 0, none⟩) bg.length (bg.length + 1)) (.slice (some ⟨gp, 0, none⟩) 1 1) bg [((i : Int), true, (0 : Int))] rfl rfl hOy hu (by simp [maxLen]; omega) (by simp; omega) hszy ?_
      intro v9 w9 hO9 hgr9 hob9; have hB9 : Below gN w2 w9 := hBy.grown hgr9 hszy (fun j e => by have := (hOc.lt j e).1; omega)
      refine hK _ _ hB9 trivial ?_
      clear hK K; obtain ⟨A9, c9, rfl⟩ := hO9.shape; refine Z82 ?_; gi_wp2_with (refine ⟨trivial, ?_⟩; gi_at_call 62; refine (callsIn_wide.2 (Zoj N A9 _ c9 _)).mono ?_; rintro e w10 ⟨gn', gb', rfl, hGn', hGb', hge1, hge2, hb10⟩)
      simp only [Z9u]; gi_wp2_with fail
      have hs9 : gN ≤ w9.heap.size := Nat.le_trans hszy hgr9.size
      have hWr : Below gN wr w10 := hbc.trans (hB9.trans (hb10.mono hs9))
      have hWr' : Below wr.heap.size wr w10 := by rw [hgN]; exact hWr
      obtain ⟨D2, hD2⟩ : ∃ z, w10.heap.size = z := ⟨_, rfl⟩
      have hs10 : w9.heap.size ≤ D2 := by rw [← hD2]; exact hb10.size
      have hI10 : I xs w10 := hI _ _ _ none hIx (Z85 hWr') (by simp)
      have hSt10 := hSt.below hWr'
      have hX10 := hX.below hWr'
      have hO10 := hO9.below hb10
      have hlen : (bg ++ [((i : Int), true, (0 : Int))]).length = bg.length + 1 := by simp
      have hS10 := hO10.rd Zj7
      have hnl : ∀ b, (Value.slice A9 (bg ++ [((i : Int), true, (0 : Int))]).length c9).ownBlock = some b → gN ≤ b ∧ b < D2 := fun b hb => by rw [← hD2]; exact hO10.lt b hb
      have hMk : ∀ x ∈ Ds, x < D2 := fun x hx => by have := hMkN x hx; omega
      have hgyN : gy < gN := hgy
      have hTD : ∀ t ∈ T, t < D2 := fun t ht => Nat.lt_of_not_le fun h => hnewT t (by omega) ht
      have hmT : ∀ x ∈ Ds, x ∉ T := fun x hx => hnewT x (by have := hSt.mks.ge x hx; omega)
      clear fGn fGb fX hWr hWr' hIx hSt hX hbc hB9 hb10 hgr9 hOc hOy hu hBy hby hO9 hX3 hGn3 hGb3; refine Zoy (d := 8) (T := T) (I := fun (pre : List OrX) W => I (xs ++ pre) W ∧ OrdS D rec T Wa Ds W ∧ Blk W g4 3 #[.int .i64 i]) (ih (bg ++ [((i : Int), true, (0 : Int))]) (by simp; omega)) hD2 (by omega) rfl hGn' (by rw [hlen]; exact hGb') hS10 (hnewT _ (by omega)) (hnewT _ (by omega)) (fun b hb => hnewT b (by have := hnl b hb; omega)) (fun b hb => (hnl b hb).2) hTD ?hI ?h0 ?hassign ?hbody ?hdone
      case hI =>
       rintro pre W W' row ⟨h1, h2, h3⟩ hg hr
       exact ⟨hI _ _ _ row h1 hg (fun r e => ⟨by have := (hr r e).1; omega, (hr r e).2⟩), h2.from (B := D2) hg (fun r e => (hr r e).1) (by omega) (by omega) hMk, h3.grown hg (Z8b h3 hr)⟩
      case h0 => exact ⟨by rw [List.append_nil]; exact hI10, hSt10, hX10⟩
      case hassign =>
       intro x W K hK; gi_wp2
       exact hK
      case hbody =>
       rintro pre ⟨xv, xl⟩ W ⟨r, hr⟩ hSx hnx ⟨h1, h2, h3⟩
       have hGyW := hGy.chg h2.chg hyT
       have fGy := hGyW.facts
       obtain ⟨fn, tmps, assign, body, hy, hRd⟩ := hY (xs ++ pre) (xv, xl) W ⟨r ++ rr, by rw [hrr, hblk, if_neg (by decide), List.map_append, hxs, hr]; simp⟩ h1 hSx (fun b hb h => hnx b hb (List.mem_cons_of_mem _ h)) h2.rdy
       unfold encO at hy; simp only at hy
       gi_wp2
       refine (Zow hRd).mono ?_
       rintro e W3 (⟨rfl, i1, i2, i3⟩ | ⟨rfl, c', i1, i2⟩)
       ·gi_wp2
        refine ⟨⟨i3.size, fun q o hq ho _ => (i3.block q (Array.getElem?_eq_some_iff.1 ho).1 fun hm => by have := hTD q hm; omega).trans ho⟩, i3.mono fun _ h => List.mem_cons_of_mem _ h, by rw [← List.append_assoc]; exact i1, ⟨i2, h2.chg.trans i3, h2.mks.chg i3 hmT⟩, h3.chg i3 h4T⟩
       ·exact i1.elim
      case hdone =>
       rintro ys W hys ⟨h1, h2, h3⟩ hd
       gi_wp2
       refine ⟨⟨_, _, _, _, _, _, _, _, _, _, _, _, _, _, _, _, _, _, _, _, _, _, _, _, _, _, _, _, _, _, _, D2 :: Ds, 1 + 1, xs ++ ys, ⟨by omega, by go_num, by rw [List.map_append, hxs, hys]; simp, h1, ⟨h2.rdy, h2.chg, h2.mks.cons (fun h => by have := hMk D2 h; omega) (by omega) hd⟩, h3⟩, rfl⟩, ?_⟩
       simp [intOf]
     ·gi_wp2
      refine ⟨⟨_, _, _, _, _, _, _, _, _, _, _, _, _, _, _, _, _, _, _, _, _, _, _, _, _, _, _, _, _, _, _, _, _, _, _, _, _, _, _, Ds, i + 1, xs, ⟨by omega, by go_num, by rw [hxs, hsc, hblk]; simp, hIx, hSt⟩, rfl⟩, ?_⟩
      simp [intOf]; omega
   ·gi_wp2_with (refine ⟨trivial, ?_⟩; gi_at_call 121; refine (callsIn_wide.2 hcn).mono ?_; rintro e w6 ⟨rfl, hb6⟩)
    have hIc : I xs w6 := hI _ _ _ none hIb (Z85 hb6) (by simp)
    refine ⟨⟨_, _, _, _, _, _, _, _, _, _, _, _, _, _, _, _, _, _, _, _, _, _, _, _, _, _, _, _, _, _, _, _, _, _, _, _, _, _, _, Ds, i + 1, xs, ⟨by omega, by go_num, by rw [hxs, hsc, hblk]; simp, hIc, hStb.below hb6⟩, rfl⟩, ?_⟩
    simp [intOf]; omega
  ·obtain rfl : i = N := by omega
   gi_wp2
   refine Zob (fun W => ∃ xs : List OrX, xs.map (·.2) = ordG i (k + 1) bg ∧ I xs W ∧ Rdy D rec W) Ds wr hSt.mks.nd hSt.mks.at_ ⟨xs, hxs.trans Zoe, hIx, hSt.rdy⟩ ?_ ?_
   ·rintro W D' hD' hd ⟨ys, h1, h2, h3⟩
    have hge := hSt.mks.ge D' hD'
    exact ⟨ys, h1, hI.putObj _ h2 (by omega) hd rfl, (World.putObj_heap_other (by omega)).trans h3.1, (World.putObj_heap_other (by omega)).trans h3.2⟩
   ·rintro W' ⟨ys, h1, h2, h3⟩
    exact ⟨.tuple #[], results_none rfl _ _ _, ⟨_, rfl⟩, ys, h1, h2, h3⟩
end Go.Proofs.YtpcgeihemkhkjaaGreatDoor
