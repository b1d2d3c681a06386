/- Plain forms, walked. Conditions: letters. -/
import Derived.Test.YtkkefahobjlagaaGreatDoorN22
import Derived.Test.YtkkefahobjlagaaGreatDoorN46
import Derived.Test.YtkkefahobjlagaaGreatDoorN25
import Derived.Test.YtkkefahobjlagaaGreatDoorN17
import Derived.Test.YtkkefahobjlagaaGreatDoorN23
import Derived.Test.YtkkefahobjlagaaGreatDoorN38
namespace Go.Proofs.YtkkefahobjlagaaGreatDoor
open Go.RowKit Go.ChangeMaps
set_option maxHeartbeats 4000000
set_option maxRecDepth 100000
attribute [local go_sem] Oper.semAt_some
section
variable {ops : Array Oper} {rest : List Oper} {o : Oper} {a : Act} {Q : Exit → Act → World → Prop} {base : Nat} {W : World} {v : Value}
theorem wpList_appE1 {x : Edg} {l : List Edg} {cs : Array Value} (hown : Own ec 3 base 107 W v l) {g : Nat} (hgd : o.guard = none) (s y : Operand)
  (ho : o.op = .call { callee := .builtin .append, args := #[s, y], argTypes := #[28, 28] })
  (hs : a.eval s = v) (hx : a.eval y = .slice (some ⟨g, 0, none⟩) 1 1) (hg : W.heap.size = g) (hcs : cs = (ec x).toArray) (hlen : l.length ≤ 1000000) (hbase : base ≤ W.heap.size)
  (h : ∀ v' w', Own ec 3 base 107 w' v' (l ++ [x]) → (W.alloc (.cells cs 107)).grownBy w' v.ownBlock → wpList Tryz.prog ops Q rest (a.put o.dst v') w') :
  wpList Tryz.prog ops Q (o :: rest) a (W.alloc (.cells cs 107)) := by
 subst hg
 exact wpList_app hgd edge_elem ec_len ec_one s y ho base v _ l [x] hs hx (hown.alloc _) (Sl.oneG W _ x _ hcs) (by simp [maxLen]; omega) (by simp; omega) (by simp; omega) h
end
def FlP (B0 Bw Bo Bp base : Nat) (w : World) (s : PlS) (e : Ending) (w' : World) : Prop :=
 e = .returned (.tuple #[]) ∧ Blk w' Bw 9 #[sV s.2.1] ∧ (∃ u, Blk w' Bo 28 #[u] ∧ Own ec 3 base 107 w' u s.1) ∧ Blk w' Bp 3 #[.int .i64 s.2.2] ∧ Below B0 w w' ∧ ∀ g cs, Blk w g 127 cs → Blk w' g 127 cs
theorem Blk.ne_ {w : World} {g g' : Nat} {t t' : TypeId} {cs cs' : Array Value} (h : Blk w g t cs) (h' : Blk w g' t' cs') (ht : t ≠ t') : g ≠ g' := by
 rintro rfl
 unfold Blk at h h'
 rw [h] at h'
 exact ht (by injection (Option.some.inj h'))
theorem flush_any (B0 Bw Bo Bp base : Nat) (s : PlS) (u : Value) (w : World) (hW : Blk w Bw 9 #[sV s.2.1]) (hO : Blk w Bo 28 #[u]) (hu : Own ec 3 base 107 w u s.1) (hP : Blk w Bp 3 #[.int .i64 s.2.2])
  (hl : s.1.length ≤ 100000) (h1 : B0 ≤ Bw) (h2 : B0 ≤ Bo) (h3 : B0 ≤ Bp) (h4 : B0 ≤ base) (h5 : base ≤ w.heap.size) :
  Calls Tryz.prog 129 #[.pointer (some ⟨Bw, 0, none⟩), .pointer (some ⟨Bo, 0, none⟩), .pointer (some ⟨Bp, 0, none⟩)] w (FlP B0 Bw Bo Bp base w (flS s)) := by
 obtain ⟨o, wd, way⟩ := s
 simp only at hW hP hu hl
 obtain ⟨A, c, rfl⟩ := hu.shape
 have n1 : Bw ≠ Bo := by rintro rfl; unfold Blk at hW hO; rw [hW] at hO; simp at hO
 have n2 : Bw ≠ Bp := by rintro rfl; unfold Blk at hW hP; rw [hW] at hP; simp at hP
 have n3 : Bo ≠ Bp := by rintro rfl; unfold Blk at hO hP; rw [hO] at hP; simp at hP
 have fW := hW.facts
 have fO := hO.facts
 have fP := hP.facts
 by_cases hz : wd = []
 ·subst hz
  have HS : Hid (flS (o, [], way) = (o, [], 0)) := rfl
  rw [HS.out]
  clear HS
  have hWF := (hW.set_ 0 (sV []))
  have e0 : sV [] = .string { data := #[] } := rfl
  rw [e0] at fW
  go_enter Tryz.func129, Tryz.ntmps129
  go_wp2
  go_end0
  have k1 : Below B0 w (w.setCell ⟨Bw, 0, none⟩ (sV [])) := (Below.refl B0 w).setCell (p := ⟨Bw, 0, none⟩) h1 _
  exact ⟨rfl, hWF.far (p := ⟨Bp, 0, none⟩) n2 _, ⟨_, (hO.far (p := ⟨Bw, 0, none⟩) (Ne.symm n1) _).far (p := ⟨Bp, 0, none⟩) n3 _, (hu.set (p := ⟨Bw, 0, none⟩) (Ne.symm (hu.ne_blk hW (by decide))) _).set (p := ⟨Bp, 0, none⟩) (Ne.symm (hu.ne_blk hP (by decide))) _⟩,
   (hP.far (p := ⟨Bw, 0, none⟩) (Ne.symm n2) _).set_ 0 (.int .i64 0), k1.setCell (p := ⟨Bp, 0, none⟩) h3 _,
   fun g cs hg => (hg.far (p := ⟨Bw, 0, none⟩) (hg.ne_ hW (by decide)) _).far (p := ⟨Bp, 0, none⟩) (hg.ne_ hP (by decide)) _⟩
 ·have HS : Hid (flS (o, wd, way) = (o ++ [(wd, 1, decide (0 < way))], [], 0)) := by unfold Hid flS; simp only; rw [if_neg hz]
  rw [HS.out]
  clear HS
  obtain ⟨B, hB⟩ : ∃ B : ByteArray, ({ data := wd.toArray } : ByteArray) = B := ⟨_, rfl⟩
  have hBl : B.toList = wd := by rw [← hB]; simp [ByteArray.toList_eq]
  have g1 : (B.toList == []) = false := by rw [hBl]; cases wd <;> simp_all
  have g2 : B.toList.isEmpty = false := by rw [hBl]; cases wd <;> simp_all
  have g3 : (B.toList = []) = False := by rw [hBl]; simpa using hz
  unfold sV at hW fW
  have HB := Lib.hid hB
  rw [hB] at hW fW
  clear hB hBl hz
  go_enter Tryz.func129, Tryz.ntmps129
  go_wp2_with (at_builtin; refine wpList_appE1 (x := (wd, 1, decide (0 < way))) hu rfl _ _ rfl rfl rfl rfl (by rw [← HB.out]; rfl) (by omega) (by omega) ?_; intro v3 w3 hu3 hgr3; obtain ⟨A3, c3, rfl⟩ := hu3.shape; have hO3 := (hO.alloc (.cells #[.string B, .int .i64 1, .bool (decide (0 < way))] 107)).grown hgr3 (hu.ne_blk hO (by decide)); have hW3 := (hW.alloc (.cells #[.string B, .int .i64 1, .bool (decide (0 < way))] 107)).grown hgr3 (hu.ne_blk hW (by decide)); have hP3 := (hP.alloc (.cells #[.string B, .int .i64 1, .bool (decide (0 < way))] 107)).grown hgr3 (hu.ne_blk hP (by decide)); have f3 := hO3.facts; have f4 := hW3.facts; have f5 := hP3.facts)
  go_end0
  simp only [List.length_append, List.length_cons, List.length_nil, Nat.zero_add] at hu3
  have k0 : Below B0 w w3 := ((Below.refl B0 w).alloc (Nat.le_trans h4 h5) _).grown hgr3 (by simp; omega) (fun k e => Nat.le_trans h4 (hu.lt k e).1)
  exact ⟨rfl, ((hW3.far (p := ⟨Bo, 0, none⟩) n1 _).set_ 0 (sV [])).far (p := ⟨Bp, 0, none⟩) n2 _,
   ⟨_, ((hO3.set_ 0 _).far (p := ⟨Bw, 0, none⟩) (Ne.symm n1) _).far (p := ⟨Bp, 0, none⟩) n3 _,
    ((hu3.set (p := ⟨Bo, 0, none⟩) (Ne.symm (hu3.ne_blk hO3 (by decide))) _).set (p := ⟨Bw, 0, none⟩) (Ne.symm (hu3.ne_blk hW3 (by decide))) _).set (p := ⟨Bp, 0, none⟩) (Ne.symm (hu3.ne_blk hP3 (by decide))) _⟩,
   ((hP3.far (p := ⟨Bo, 0, none⟩) (Ne.symm n3) _).far (p := ⟨Bw, 0, none⟩) (Ne.symm n2) _).set_ 0 (.int .i64 0),
   ((k0.setCell (p := ⟨Bo, 0, none⟩) h2 _).setCell (p := ⟨Bw, 0, none⟩) h1 _).setCell (p := ⟨Bp, 0, none⟩) h3 _,
   fun g cs hg => ((((hg.alloc _).grown hgr3 (hu.ne_blk hg (by decide))).far (p := ⟨Bo, 0, none⟩) (hg.ne_ hO (by decide)) _).far (p := ⟨Bw, 0, none⟩) (hg.ne_ hW (by decide)) _).far (p := ⟨Bp, 0, none⟩) (hg.ne_ hP (by decide)) _⟩
def ltr (c : UInt8) : Prop := c = 78 ∨ c = 66 ∨ c = 84
theorem conv_ltr (c : UInt8) (h : ltr c) (w : World) : (convert 5 9 (.int .u8 c.toNat)).run Tryz.prog w = .ok (.string ⟨#[c]⟩) w := by
 rcases h with rfl | rfl | rfl <;> kernel_rfl
theorem enc_ltr (c : UInt8) (h : ltr c) : Utf8.encode (c.toNat : Int) = ⟨#[c]⟩ := by
 rcases h with rfl | rfl | rfl <;> kernel_rfl
theorem app_str (wd : List UInt8) (c : UInt8) : (({ data := wd.toArray } : ByteArray) ++ { data := #[c] }) = { data := (wd ++ [c]).toArray } := by
 apply ByteArray.ext
 simp [ByteArray.data_append]
theorem plS_len (s : PlS) (x : Stp) : (plS s x).1.length ≤ s.1.length + 1 := by
 unfold plS putS flS
 simp only
 split
 ·split
  ·simp
  ·simp
 ·simp
theorem plF_len : ∀ l : List Stp, (plF l).1.length ≤ l.length := by
 have : ∀ (l : List Stp) (s : PlS), (l.foldl plS s).1.length ≤ s.1.length + l.length := by
  intro l
  induction l with
  | nil => intro s; simp
  | cons x r ih =>
   intro s
   have h1 := ih (plS s x)
   have h2 := plS_len s x
   simp only [List.foldl_cons, List.length_cons]
   omega
 intro l
 have := this l ([], [], 0)
 simpa [plF] using this
theorem plS_cut {s : PlS} {x : Stp} {y : Int} (hy : (if ownW x ≠ 0 then ownW x else 0) = y) (h : cutS s x = true) : plS s x = ((flS s).1, [x.1], y) := by
 unfold plS
 rw [if_pos h]
 unfold putS
 rw [← hy]
 rfl
theorem plS_keep {s : PlS} {x : Stp} {y : Int} (hy : (if ownW x ≠ 0 then ownW x else s.2.2) = y) (h : cutS s x = false) : plS s x = (s.1, s.2.1 ++ [x.1], y) := by
 unfold plS
 rw [if_neg (by simp [h])]
 unfold putS
 rw [← hy]
theorem plain_any (l : List Stp) (A : Option Addr) (cc : Nat) (w : World) (hr : Rd sc 2 w A l) (hl : l.length ≤ 1000) (hc : ∀ x ∈ l, ltr x.1) :
  Calls Tryz.prog 69 #[.slice A l.length cc] w (RG ec 3 107 w (plnL l)) := by
 have HLL := Lib.hid hc
 clear hc
 have hO := Blk.new w 28 #[.slice none 0 0]
 have hW := Blk.new1 w (.cells #[.slice none 0 0] 28) 9 #[sV []]
 have hP := Blk.new2 w (.cells #[.slice none 0 0] 28) (.cells #[sV []] 9) 3 #[.int .i64 0]
 replace hO := (hO.alloc (.cells #[sV []] 9)).alloc (.cells #[.int .i64 0] 3)
 replace hW := hW.alloc (.cells #[.int .i64 0] 3)
 have e0 : sV [] = .string { data := #[] } := rfl
 rw [e0] at hO hW hP
 go_enter Tryz.func69, Tryz.ntmps69
 go_upto_region 4 with fail
 obtain ⟨w1, hw1⟩ : ∃ X, ((w.alloc (.cells #[.slice none 0 0] 28)).alloc (.cells #[.string { data := #[] }] 9)).alloc (.cells #[.int .i64 0] 3) = X := ⟨_, rfl⟩
 have hb1 : Below w.heap.size w w1 := by rw [← hw1]; exact bl_alloc (bl_alloc (bl_alloc bl_refl _) _) _
 rw [hw1] at hO hW hP ⊢
 clear hw1
 go_wp2
 go_loopw [13] (fun s13 wr => ∃ k : Nat, k ≤ l.length ∧ s13 = .int .i64 k ∧ Blk wr (w.heap.size + 1) 9 #[sV (plF (l.take k)).2.1] ∧ (∃ u, Blk wr w.heap.size 28 #[u] ∧ Own ec 3 w.heap.size 107 wr u (plF (l.take k)).1) ∧ Blk wr (w.heap.size + 1 + 1) 3 #[.int .i64 (plF (l.take k)).2.2] ∧ Below w.heap.size w wr) (fun s _ => l.length - (intOf s).toNat)
 case atStart => exact ⟨0, Nat.zero_le _, rfl, hW, ⟨_, hO, Own.nil_⟩, hP, hb1⟩
 case round =>
  clear hO hW hP
  obtain ⟨k, hk, rfl, hW, ⟨u, hO, hu⟩, hP, hbk⟩ := hrel
  obtain ⟨wo, rfl⟩ : ∃ x, x = wr := ⟨_, rfl⟩
  have hok := plF_ok (l.take k)
  have hel := plF_len (l.take k)
  by_cases hlt : k < l.length
  ·have HT : Hid (plF (l.take (k + 1)) = plS (plF (l.take k)) l[k]) := by unfold Hid; rw [List.take_succ_eq_append_getElem hlt, plF_snoc]
   have hlc := HLL.out _ (List.getElem_mem hlt)
   obtain ⟨b, off, rfl, hb, e0, e1⟩ := (hr.below hbk).stp hlt
   obtain ⟨⟨c, o⟩, hx⟩ : ∃ z, l[k] = z := ⟨_, rfl⟩
   rw [hx] at e0 e1 hlc HT
   simp only at e0 e1 hlc
   clear hx
   have hS : (plF (l.take k)).1.length ≤ 1000 := by have := List.length_take_le k l; omega
   obtain ⟨⟨es, wd, way⟩, hs⟩ : ∃ z, plF (l.take k) = z := ⟨_, rfl⟩
   rw [hs] at hW hu hP hok HT hS
   obtain ⟨hway, hlen⟩ := hok
   simp only at hW hu hP hway hlen hS
   clear hs hel
   have hgz : w.heap.size + 1 + 1 < wo.heap.size := hP.lt
   have hX := Blk.new wo 127 #[.int .u8 c.toNat, .bool o]
   replace hW := hW.alloc (.cells #[.int .u8 c.toNat, .bool o] 127)
   replace hO := hO.alloc (.cells #[.int .u8 c.toNat, .bool o] 127)
   replace hP := hP.alloc (.cells #[.int .u8 c.toNat, .bool o] 127)
   replace hu := hu.alloc (.cells #[.int .u8 c.toNat, .bool o] 127)
   have hbx := bl_alloc hbk (.cells #[.int .u8 c.toNat, .bool o] 127)
   have fX := hX.facts
   go_upto_region 7 with fail
   obtain ⟨wx, hwx⟩ : ∃ X, wo.alloc (.cells #[.int .u8 c.toNat, .bool o] 127) = X := ⟨_, rfl⟩
   have hcv := conv_ltr c hlc
   obtain ⟨gx, hgx⟩ : ∃ X, wo.heap.size = X := ⟨_, rfl⟩
   rw [hwx] at hW hO hP hu hbx
   rw [hgx] at hgz
   rw [hwx, hgx] at hX
   rw [hwx, hgx]
   clear hwx hgx fX e0 e1 hb hbk
   have hcv := enc_ltr c hlc
   have hsz : ({ data := wd.toArray } : ByteArray).size = wd.length := rfl
   have hfl := flush_any w.heap.size (w.heap.size + 1) w.heap.size (w.heap.size + 1 + 1) w.heap.size (es, wd, way) u wx hW hO hu hP (by simp only; omega) (by omega) (Nat.le_refl _) (by omega) (Nat.le_refl _) hbx.size
   have HW0 := Lib.hid hW
   unfold sV at hW
   have HAP := Lib.hid (app_str wd c)
   have HAE : Hid (({ data := #[] } : ByteArray) ++ { data := #[c] } = { data := [c].toArray }) := app_str [] c
   have fX := hX.facts
   have fW := hW.facts
   have fO := hO.facts
   have fP := hP.facts
   have nWX : w.heap.size + 1 ≠ w.heap.size + 1 + 1 := by omega
   clear hlc hgz
   by_cases hO1 : c = 78
   ·have t1 : ((c.toNat : Int) != 78) = false := by rw [hO1]; rfl
    have HO : Hid (ownW (c, o) = 0) := by unfold Hid ownW; rw [if_pos hO1]
    clear hO1
    rcases hway with rfl | rfl | rfl
    ·by_cases h64 : wd.length = 64
     ·have q1 : ((wd.length : Int) == 64) = true := by rw [h64]; rfl
      have HS : Hid (plS (es, wd, (0 : Int)) (c, o) = ((flS (es, wd, 0)).1, [c], (0 : Int))) := by unfold Hid; exact plS_cut (by rw [HO.out]; rfl) (by unfold cutS; rw [HO.out, decide_eq_true h64]; rfl)
      clear h64
      go_wp2_with fail
      refine hfl.mono ?_
      rintro e w9 ⟨rfl, hW9, ⟨u9, hO9, hu9⟩, hP9, hb9, hk9⟩
      have hX9 := hk9 _ _ hX
      unfold sV flS at hW9
      have fX9 := hX9.facts
      have fW9 := hW9.facts
      have fP9 := hP9.facts
      go_wp2
      go_roundw
      case rel => exact ⟨k + 1, by omega, by go_num, by rw [HT.out, HS.out]; unfold sV; rw [← HAE.out]; exact hW9.set_ 0 _, ⟨u9, by exact hO9.far (p := ⟨w.heap.size + 1, 0, none⟩) (by simp) _, by rw [HT.out, HS.out]; exact hu9.set (p := ⟨w.heap.size + 1, 0, none⟩) (Ne.symm (hu9.ne_blk hW9 (by decide))) _⟩, by rw [HT.out, HS.out]; exact hP9.far (p := ⟨w.heap.size + 1, 0, none⟩) (by simp) _, (hbx.trans hb9).setCell (p := ⟨w.heap.size + 1, 0, none⟩) (by simp) _⟩
      case measure => simp [intOf]; omega
     ·have q1 : ((wd.length : Int) == 64) = false := beq_false_of_ne (by omega)
      have HS : Hid (plS (es, wd, (0 : Int)) (c, o) = (es, wd ++ [c], (0 : Int))) := by unfold Hid; exact plS_keep (by rw [HO.out]; rfl) (by unfold cutS; rw [HO.out, decide_eq_false h64]; rfl)
      clear h64
      go_wp2
      go_roundw
      case rel => exact ⟨k + 1, by omega, by go_num, by rw [HT.out, HS.out]; unfold sV; rw [← HAP.out]; exact hW.set_ 0 _, ⟨u, by exact hO.far (p := ⟨w.heap.size + 1, 0, none⟩) (by simp) _, by rw [HT.out, HS.out]; exact hu.set (p := ⟨w.heap.size + 1, 0, none⟩) (Ne.symm (hu.ne_blk hW (by decide))) _⟩, by rw [HT.out, HS.out]; exact hP.far (p := ⟨w.heap.size + 1, 0, none⟩) (by simp) _, hbx.setCell (p := ⟨w.heap.size + 1, 0, none⟩) (by simp) _⟩
      case measure => simp [intOf]; omega
    ·by_cases h64 : wd.length = 64
     ·have q1 : ((wd.length : Int) == 64) = true := by rw [h64]; rfl
      have HS : Hid (plS (es, wd, (1 : Int)) (c, o) = ((flS (es, wd, 1)).1, [c], (0 : Int))) := by unfold Hid; exact plS_cut (by rw [HO.out]; rfl) (by unfold cutS; rw [HO.out, decide_eq_true h64]; rfl)
      clear h64
      go_wp2_with fail
      refine hfl.mono ?_
      rintro e w9 ⟨rfl, hW9, ⟨u9, hO9, hu9⟩, hP9, hb9, hk9⟩
      have hX9 := hk9 _ _ hX
      unfold sV flS at hW9
      have fX9 := hX9.facts
      have fW9 := hW9.facts
      have fP9 := hP9.facts
      go_wp2
      go_roundw
      case rel => exact ⟨k + 1, by omega, by go_num, by rw [HT.out, HS.out]; unfold sV; rw [← HAE.out]; exact hW9.set_ 0 _, ⟨u9, by exact hO9.far (p := ⟨w.heap.size + 1, 0, none⟩) (by simp) _, by rw [HT.out, HS.out]; exact hu9.set (p := ⟨w.heap.size + 1, 0, none⟩) (Ne.symm (hu9.ne_blk hW9 (by decide))) _⟩, by rw [HT.out, HS.out]; exact hP9.far (p := ⟨w.heap.size + 1, 0, none⟩) (by simp) _, (hbx.trans hb9).setCell (p := ⟨w.heap.size + 1, 0, none⟩) (by simp) _⟩
      case measure => simp [intOf]; omega
     ·have q1 : ((wd.length : Int) == 64) = false := beq_false_of_ne (by omega)
      have HS : Hid (plS (es, wd, (1 : Int)) (c, o) = (es, wd ++ [c], (1 : Int))) := by unfold Hid; exact plS_keep (by rw [HO.out]; rfl) (by unfold cutS; rw [HO.out, decide_eq_false h64]; rfl)
      clear h64
      go_wp2
      go_roundw
      case rel => exact ⟨k + 1, by omega, by go_num, by rw [HT.out, HS.out]; unfold sV; rw [← HAP.out]; exact hW.set_ 0 _, ⟨u, by exact hO.far (p := ⟨w.heap.size + 1, 0, none⟩) (by simp) _, by rw [HT.out, HS.out]; exact hu.set (p := ⟨w.heap.size + 1, 0, none⟩) (Ne.symm (hu.ne_blk hW (by decide))) _⟩, by rw [HT.out, HS.out]; exact hP.far (p := ⟨w.heap.size + 1, 0, none⟩) (by simp) _, hbx.setCell (p := ⟨w.heap.size + 1, 0, none⟩) (by simp) _⟩
      case measure => simp [intOf]; omega
    ·by_cases h64 : wd.length = 64
     ·have q1 : ((wd.length : Int) == 64) = true := by rw [h64]; rfl
      have HS : Hid (plS (es, wd, (-1 : Int)) (c, o) = ((flS (es, wd, -1)).1, [c], (0 : Int))) := by unfold Hid; exact plS_cut (by rw [HO.out]; rfl) (by unfold cutS; rw [HO.out, decide_eq_true h64]; rfl)
      clear h64
      go_wp2_with fail
      refine hfl.mono ?_
      rintro e w9 ⟨rfl, hW9, ⟨u9, hO9, hu9⟩, hP9, hb9, hk9⟩
      have hX9 := hk9 _ _ hX
      unfold sV flS at hW9
      have fX9 := hX9.facts
      have fW9 := hW9.facts
      have fP9 := hP9.facts
      go_wp2
      go_roundw
      case rel => exact ⟨k + 1, by omega, by go_num, by rw [HT.out, HS.out]; unfold sV; rw [← HAE.out]; exact hW9.set_ 0 _, ⟨u9, by exact hO9.far (p := ⟨w.heap.size + 1, 0, none⟩) (by simp) _, by rw [HT.out, HS.out]; exact hu9.set (p := ⟨w.heap.size + 1, 0, none⟩) (Ne.symm (hu9.ne_blk hW9 (by decide))) _⟩, by rw [HT.out, HS.out]; exact hP9.far (p := ⟨w.heap.size + 1, 0, none⟩) (by simp) _, (hbx.trans hb9).setCell (p := ⟨w.heap.size + 1, 0, none⟩) (by simp) _⟩
      case measure => simp [intOf]; omega
     ·have q1 : ((wd.length : Int) == 64) = false := beq_false_of_ne (by omega)
      have HS : Hid (plS (es, wd, (-1 : Int)) (c, o) = (es, wd ++ [c], (-1 : Int))) := by unfold Hid; exact plS_keep (by rw [HO.out]; rfl) (by unfold cutS; rw [HO.out, decide_eq_false h64]; rfl)
      clear h64
      go_wp2
      go_roundw
      case rel => exact ⟨k + 1, by omega, by go_num, by rw [HT.out, HS.out]; unfold sV; rw [← HAP.out]; exact hW.set_ 0 _, ⟨u, by exact hO.far (p := ⟨w.heap.size + 1, 0, none⟩) (by simp) _, by rw [HT.out, HS.out]; exact hu.set (p := ⟨w.heap.size + 1, 0, none⟩) (Ne.symm (hu.ne_blk hW (by decide))) _⟩, by rw [HT.out, HS.out]; exact hP.far (p := ⟨w.heap.size + 1, 0, none⟩) (by simp) _, hbx.setCell (p := ⟨w.heap.size + 1, 0, none⟩) (by simp) _⟩
      case measure => simp [intOf]; omega
   ·have t1 : ((c.toNat : Int) != 78) = true := by rw [bne_iff_ne]; intro h; exact hO1 (by rw [← UInt8.toNat_inj]; exact_mod_cast h)
    by_cases hO2 : o = true
    ·subst hO2
     have HO : Hid (ownW (c, true) = 1) := by unfold Hid ownW; rw [if_neg hO1]; rfl
     clear hO1
     rcases hway with rfl | rfl | rfl
     ·by_cases h64 : wd.length = 64
      ·have q1 : ((wd.length : Int) == 64) = true := by rw [h64]; rfl
       have HS : Hid (plS (es, wd, (0 : Int)) (c, true) = ((flS (es, wd, 0)).1, [c], (1 : Int))) := by unfold Hid; exact plS_cut (by rw [HO.out]; rfl) (by unfold cutS; rw [HO.out, decide_eq_true h64]; rfl)
       clear h64
       go_wp2_with fail
       refine hfl.mono ?_
       rintro e w9 ⟨rfl, hW9, ⟨u9, hO9, hu9⟩, hP9, hb9, hk9⟩
       have hX9 := hk9 _ _ hX
       unfold sV flS at hW9
       have fX9 := hX9.facts
       have fW9 := hW9.facts
       have fP9 := hP9.facts
       go_wp2
       go_roundw
       case rel => exact ⟨k + 1, by omega, by go_num, by rw [HT.out, HS.out]; unfold sV; rw [← HAE.out]; exact (hW9.set_ 0 _).far (p := ⟨w.heap.size + 1 + 1, 0, none⟩) (by simp) _, ⟨u9, by exact (hO9.far (p := ⟨w.heap.size + 1, 0, none⟩) (by simp) _).far (p := ⟨w.heap.size + 1 + 1, 0, none⟩) (by show w.heap.size ≠ w.heap.size + 1 + 1; omega) _, by rw [HT.out, HS.out]; exact (hu9.set (p := ⟨w.heap.size + 1, 0, none⟩) (Ne.symm (hu9.ne_blk hW9 (by decide))) _).set (p := ⟨w.heap.size + 1 + 1, 0, none⟩) (Ne.symm (hu9.ne_blk hP9 (by decide))) _⟩, by rw [HT.out, HS.out]; exact (hP9.far (p := ⟨w.heap.size + 1, 0, none⟩) (by simp) _).set_ 0 _, ((hbx.trans hb9).setCell (p := ⟨w.heap.size + 1, 0, none⟩) (by simp) _).setCell (p := ⟨w.heap.size + 1 + 1, 0, none⟩) (by simp; omega) _⟩
       case measure => simp [intOf]; omega
      ·have q1 : ((wd.length : Int) == 64) = false := beq_false_of_ne (by omega)
       have HS : Hid (plS (es, wd, (0 : Int)) (c, true) = (es, wd ++ [c], (1 : Int))) := by unfold Hid; exact plS_keep (by rw [HO.out]; rfl) (by unfold cutS; rw [HO.out, decide_eq_false h64]; rfl)
       clear h64
       go_wp2
       go_roundw
       case rel => exact ⟨k + 1, by omega, by go_num, by rw [HT.out, HS.out]; unfold sV; rw [← HAP.out]; exact (hW.set_ 0 _).far (p := ⟨w.heap.size + 1 + 1, 0, none⟩) (by simp) _, ⟨u, by exact (hO.far (p := ⟨w.heap.size + 1, 0, none⟩) (by simp) _).far (p := ⟨w.heap.size + 1 + 1, 0, none⟩) (by show w.heap.size ≠ w.heap.size + 1 + 1; omega) _, by rw [HT.out, HS.out]; exact (hu.set (p := ⟨w.heap.size + 1, 0, none⟩) (Ne.symm (hu.ne_blk hW (by decide))) _).set (p := ⟨w.heap.size + 1 + 1, 0, none⟩) (Ne.symm (hu.ne_blk hP (by decide))) _⟩, by rw [HT.out, HS.out]; exact (hP.far (p := ⟨w.heap.size + 1, 0, none⟩) (by simp) _).set_ 0 _, (hbx.setCell (p := ⟨w.heap.size + 1, 0, none⟩) (by simp) _).setCell (p := ⟨w.heap.size + 1 + 1, 0, none⟩) (by simp; omega) _⟩
       case measure => simp [intOf]; omega
     ·by_cases h64 : wd.length = 64
      ·have q1 : ((wd.length : Int) == 64) = true := by rw [h64]; rfl
       have HS : Hid (plS (es, wd, (1 : Int)) (c, true) = ((flS (es, wd, 1)).1, [c], (1 : Int))) := by unfold Hid; exact plS_cut (by rw [HO.out]; rfl) (by unfold cutS; rw [HO.out, decide_eq_true h64]; rfl)
       clear h64
       go_wp2_with fail
       refine hfl.mono ?_
       rintro e w9 ⟨rfl, hW9, ⟨u9, hO9, hu9⟩, hP9, hb9, hk9⟩
       have hX9 := hk9 _ _ hX
       unfold sV flS at hW9
       have fX9 := hX9.facts
       have fW9 := hW9.facts
       have fP9 := hP9.facts
       go_wp2
       go_roundw
       case rel => exact ⟨k + 1, by omega, by go_num, by rw [HT.out, HS.out]; unfold sV; rw [← HAE.out]; exact (hW9.set_ 0 _).far (p := ⟨w.heap.size + 1 + 1, 0, none⟩) (by simp) _, ⟨u9, by exact (hO9.far (p := ⟨w.heap.size + 1, 0, none⟩) (by simp) _).far (p := ⟨w.heap.size + 1 + 1, 0, none⟩) (by show w.heap.size ≠ w.heap.size + 1 + 1; omega) _, by rw [HT.out, HS.out]; exact (hu9.set (p := ⟨w.heap.size + 1, 0, none⟩) (Ne.symm (hu9.ne_blk hW9 (by decide))) _).set (p := ⟨w.heap.size + 1 + 1, 0, none⟩) (Ne.symm (hu9.ne_blk hP9 (by decide))) _⟩, by rw [HT.out, HS.out]; exact (hP9.far (p := ⟨w.heap.size + 1, 0, none⟩) (by simp) _).set_ 0 _, ((hbx.trans hb9).setCell (p := ⟨w.heap.size + 1, 0, none⟩) (by simp) _).setCell (p := ⟨w.heap.size + 1 + 1, 0, none⟩) (by simp; omega) _⟩
       case measure => simp [intOf]; omega
      ·have q1 : ((wd.length : Int) == 64) = false := beq_false_of_ne (by omega)
       have HS : Hid (plS (es, wd, (1 : Int)) (c, true) = (es, wd ++ [c], (1 : Int))) := by unfold Hid; exact plS_keep (by rw [HO.out]; rfl) (by unfold cutS; rw [HO.out, decide_eq_false h64]; rfl)
       clear h64
       go_wp2
       go_roundw
       case rel => exact ⟨k + 1, by omega, by go_num, by rw [HT.out, HS.out]; unfold sV; rw [← HAP.out]; exact (hW.set_ 0 _).far (p := ⟨w.heap.size + 1 + 1, 0, none⟩) (by simp) _, ⟨u, by exact (hO.far (p := ⟨w.heap.size + 1, 0, none⟩) (by simp) _).far (p := ⟨w.heap.size + 1 + 1, 0, none⟩) (by show w.heap.size ≠ w.heap.size + 1 + 1; omega) _, by rw [HT.out, HS.out]; exact (hu.set (p := ⟨w.heap.size + 1, 0, none⟩) (Ne.symm (hu.ne_blk hW (by decide))) _).set (p := ⟨w.heap.size + 1 + 1, 0, none⟩) (Ne.symm (hu.ne_blk hP (by decide))) _⟩, by rw [HT.out, HS.out]; exact (hP.far (p := ⟨w.heap.size + 1, 0, none⟩) (by simp) _).set_ 0 _, (hbx.setCell (p := ⟨w.heap.size + 1, 0, none⟩) (by simp) _).setCell (p := ⟨w.heap.size + 1 + 1, 0, none⟩) (by simp; omega) _⟩
       case measure => simp [intOf]; omega
     ·by_cases h64 : wd.length = 64
      ·have q1 : ((wd.length : Int) == 64) = true := by rw [h64]; rfl
       have HS : Hid (plS (es, wd, (-1 : Int)) (c, true) = ((flS (es, wd, -1)).1, [c], (1 : Int))) := by unfold Hid; exact plS_cut (by rw [HO.out]; rfl) (by unfold cutS; rw [HO.out, decide_eq_true h64]; rfl)
       clear h64
       go_wp2_with fail
       refine hfl.mono ?_
       rintro e w9 ⟨rfl, hW9, ⟨u9, hO9, hu9⟩, hP9, hb9, hk9⟩
       have hX9 := hk9 _ _ hX
       unfold sV flS at hW9
       have fX9 := hX9.facts
       have fW9 := hW9.facts
       have fP9 := hP9.facts
       go_wp2
       go_roundw
       case rel => exact ⟨k + 1, by omega, by go_num, by rw [HT.out, HS.out]; unfold sV; rw [← HAE.out]; exact (hW9.set_ 0 _).far (p := ⟨w.heap.size + 1 + 1, 0, none⟩) (by simp) _, ⟨u9, by exact (hO9.far (p := ⟨w.heap.size + 1, 0, none⟩) (by simp) _).far (p := ⟨w.heap.size + 1 + 1, 0, none⟩) (by show w.heap.size ≠ w.heap.size + 1 + 1; omega) _, by rw [HT.out, HS.out]; exact (hu9.set (p := ⟨w.heap.size + 1, 0, none⟩) (Ne.symm (hu9.ne_blk hW9 (by decide))) _).set (p := ⟨w.heap.size + 1 + 1, 0, none⟩) (Ne.symm (hu9.ne_blk hP9 (by decide))) _⟩, by rw [HT.out, HS.out]; exact (hP9.far (p := ⟨w.heap.size + 1, 0, none⟩) (by simp) _).set_ 0 _, ((hbx.trans hb9).setCell (p := ⟨w.heap.size + 1, 0, none⟩) (by simp) _).setCell (p := ⟨w.heap.size + 1 + 1, 0, none⟩) (by simp; omega) _⟩
       case measure => simp [intOf]; omega
      ·have q1 : ((wd.length : Int) == 64) = false := beq_false_of_ne (by omega)
       have HS : Hid (plS (es, wd, (-1 : Int)) (c, true) = ((flS (es, wd, -1)).1, [c], (1 : Int))) := by unfold Hid; exact plS_cut (by rw [HO.out]; rfl) (by unfold cutS; rw [HO.out, decide_eq_false h64]; rfl)
       clear h64
       go_wp2_with fail
       refine hfl.mono ?_
       rintro e w9 ⟨rfl, hW9, ⟨u9, hO9, hu9⟩, hP9, hb9, hk9⟩
       have hX9 := hk9 _ _ hX
       unfold sV flS at hW9
       have fX9 := hX9.facts
       have fW9 := hW9.facts
       have fP9 := hP9.facts
       go_wp2
       go_roundw
       case rel => exact ⟨k + 1, by omega, by go_num, by rw [HT.out, HS.out]; unfold sV; rw [← HAE.out]; exact (hW9.set_ 0 _).far (p := ⟨w.heap.size + 1 + 1, 0, none⟩) (by simp) _, ⟨u9, by exact (hO9.far (p := ⟨w.heap.size + 1, 0, none⟩) (by simp) _).far (p := ⟨w.heap.size + 1 + 1, 0, none⟩) (by show w.heap.size ≠ w.heap.size + 1 + 1; omega) _, by rw [HT.out, HS.out]; exact (hu9.set (p := ⟨w.heap.size + 1, 0, none⟩) (Ne.symm (hu9.ne_blk hW9 (by decide))) _).set (p := ⟨w.heap.size + 1 + 1, 0, none⟩) (Ne.symm (hu9.ne_blk hP9 (by decide))) _⟩, by rw [HT.out, HS.out]; exact (hP9.far (p := ⟨w.heap.size + 1, 0, none⟩) (by simp) _).set_ 0 _, ((hbx.trans hb9).setCell (p := ⟨w.heap.size + 1, 0, none⟩) (by simp) _).setCell (p := ⟨w.heap.size + 1 + 1, 0, none⟩) (by simp; omega) _⟩
       case measure => simp [intOf]; omega
    ·obtain rfl : o = false := by simpa using hO2
     have HO : Hid (ownW (c, false) = -1) := by unfold Hid ownW; rw [if_neg hO1]; rfl
     clear hO1 hO2
     rcases hway with rfl | rfl | rfl
     ·by_cases h64 : wd.length = 64
      ·have q1 : ((wd.length : Int) == 64) = true := by rw [h64]; rfl
       have HS : Hid (plS (es, wd, (0 : Int)) (c, false) = ((flS (es, wd, 0)).1, [c], (-1 : Int))) := by unfold Hid; exact plS_cut (by rw [HO.out]; rfl) (by unfold cutS; rw [HO.out, decide_eq_true h64]; rfl)
       clear h64
       go_wp2_with fail
       refine hfl.mono ?_
       rintro e w9 ⟨rfl, hW9, ⟨u9, hO9, hu9⟩, hP9, hb9, hk9⟩
       have hX9 := hk9 _ _ hX
       unfold sV flS at hW9
       have fX9 := hX9.facts
       have fW9 := hW9.facts
       have fP9 := hP9.facts
       go_wp2
       go_roundw
       case rel => exact ⟨k + 1, by omega, by go_num, by rw [HT.out, HS.out]; unfold sV; rw [← HAE.out]; exact (hW9.set_ 0 _).far (p := ⟨w.heap.size + 1 + 1, 0, none⟩) (by simp) _, ⟨u9, by exact (hO9.far (p := ⟨w.heap.size + 1, 0, none⟩) (by simp) _).far (p := ⟨w.heap.size + 1 + 1, 0, none⟩) (by show w.heap.size ≠ w.heap.size + 1 + 1; omega) _, by rw [HT.out, HS.out]; exact (hu9.set (p := ⟨w.heap.size + 1, 0, none⟩) (Ne.symm (hu9.ne_blk hW9 (by decide))) _).set (p := ⟨w.heap.size + 1 + 1, 0, none⟩) (Ne.symm (hu9.ne_blk hP9 (by decide))) _⟩, by rw [HT.out, HS.out]; exact (hP9.far (p := ⟨w.heap.size + 1, 0, none⟩) (by simp) _).set_ 0 _, ((hbx.trans hb9).setCell (p := ⟨w.heap.size + 1, 0, none⟩) (by simp) _).setCell (p := ⟨w.heap.size + 1 + 1, 0, none⟩) (by simp; omega) _⟩
       case measure => simp [intOf]; omega
      ·have q1 : ((wd.length : Int) == 64) = false := beq_false_of_ne (by omega)
       have HS : Hid (plS (es, wd, (0 : Int)) (c, false) = (es, wd ++ [c], (-1 : Int))) := by unfold Hid; exact plS_keep (by rw [HO.out]; rfl) (by unfold cutS; rw [HO.out, decide_eq_false h64]; rfl)
       clear h64
       go_wp2
       go_roundw
       case rel => exact ⟨k + 1, by omega, by go_num, by rw [HT.out, HS.out]; unfold sV; rw [← HAP.out]; exact (hW.set_ 0 _).far (p := ⟨w.heap.size + 1 + 1, 0, none⟩) (by simp) _, ⟨u, by exact (hO.far (p := ⟨w.heap.size + 1, 0, none⟩) (by simp) _).far (p := ⟨w.heap.size + 1 + 1, 0, none⟩) (by show w.heap.size ≠ w.heap.size + 1 + 1; omega) _, by rw [HT.out, HS.out]; exact (hu.set (p := ⟨w.heap.size + 1, 0, none⟩) (Ne.symm (hu.ne_blk hW (by decide))) _).set (p := ⟨w.heap.size + 1 + 1, 0, none⟩) (Ne.symm (hu.ne_blk hP (by decide))) _⟩, by rw [HT.out, HS.out]; exact (hP.far (p := ⟨w.heap.size + 1, 0, none⟩) (by simp) _).set_ 0 _, (hbx.setCell (p := ⟨w.heap.size + 1, 0, none⟩) (by simp) _).setCell (p := ⟨w.heap.size + 1 + 1, 0, none⟩) (by simp; omega) _⟩
       case measure => simp [intOf]; omega
     ·by_cases h64 : wd.length = 64
      ·have q1 : ((wd.length : Int) == 64) = true := by rw [h64]; rfl
       have HS : Hid (plS (es, wd, (1 : Int)) (c, false) = ((flS (es, wd, 1)).1, [c], (-1 : Int))) := by unfold Hid; exact plS_cut (by rw [HO.out]; rfl) (by unfold cutS; rw [HO.out, decide_eq_true h64]; rfl)
       clear h64
       go_wp2_with fail
       refine hfl.mono ?_
       rintro e w9 ⟨rfl, hW9, ⟨u9, hO9, hu9⟩, hP9, hb9, hk9⟩
       have hX9 := hk9 _ _ hX
       unfold sV flS at hW9
       have fX9 := hX9.facts
       have fW9 := hW9.facts
       have fP9 := hP9.facts
       go_wp2
       go_roundw
       case rel => exact ⟨k + 1, by omega, by go_num, by rw [HT.out, HS.out]; unfold sV; rw [← HAE.out]; exact (hW9.set_ 0 _).far (p := ⟨w.heap.size + 1 + 1, 0, none⟩) (by simp) _, ⟨u9, by exact (hO9.far (p := ⟨w.heap.size + 1, 0, none⟩) (by simp) _).far (p := ⟨w.heap.size + 1 + 1, 0, none⟩) (by show w.heap.size ≠ w.heap.size + 1 + 1; omega) _, by rw [HT.out, HS.out]; exact (hu9.set (p := ⟨w.heap.size + 1, 0, none⟩) (Ne.symm (hu9.ne_blk hW9 (by decide))) _).set (p := ⟨w.heap.size + 1 + 1, 0, none⟩) (Ne.symm (hu9.ne_blk hP9 (by decide))) _⟩, by rw [HT.out, HS.out]; exact (hP9.far (p := ⟨w.heap.size + 1, 0, none⟩) (by simp) _).set_ 0 _, ((hbx.trans hb9).setCell (p := ⟨w.heap.size + 1, 0, none⟩) (by simp) _).setCell (p := ⟨w.heap.size + 1 + 1, 0, none⟩) (by simp; omega) _⟩
       case measure => simp [intOf]; omega
      ·have q1 : ((wd.length : Int) == 64) = false := beq_false_of_ne (by omega)
       have HS : Hid (plS (es, wd, (1 : Int)) (c, false) = ((flS (es, wd, 1)).1, [c], (-1 : Int))) := by unfold Hid; exact plS_cut (by rw [HO.out]; rfl) (by unfold cutS; rw [HO.out, decide_eq_false h64]; rfl)
       clear h64
       go_wp2_with fail
       refine hfl.mono ?_
       rintro e w9 ⟨rfl, hW9, ⟨u9, hO9, hu9⟩, hP9, hb9, hk9⟩
       have hX9 := hk9 _ _ hX
       unfold sV flS at hW9
       have fX9 := hX9.facts
       have fW9 := hW9.facts
       have fP9 := hP9.facts
       go_wp2
       go_roundw
       case rel => exact ⟨k + 1, by omega, by go_num, by rw [HT.out, HS.out]; unfold sV; rw [← HAE.out]; exact (hW9.set_ 0 _).far (p := ⟨w.heap.size + 1 + 1, 0, none⟩) (by simp) _, ⟨u9, by exact (hO9.far (p := ⟨w.heap.size + 1, 0, none⟩) (by simp) _).far (p := ⟨w.heap.size + 1 + 1, 0, none⟩) (by show w.heap.size ≠ w.heap.size + 1 + 1; omega) _, by rw [HT.out, HS.out]; exact (hu9.set (p := ⟨w.heap.size + 1, 0, none⟩) (Ne.symm (hu9.ne_blk hW9 (by decide))) _).set (p := ⟨w.heap.size + 1 + 1, 0, none⟩) (Ne.symm (hu9.ne_blk hP9 (by decide))) _⟩, by rw [HT.out, HS.out]; exact (hP9.far (p := ⟨w.heap.size + 1, 0, none⟩) (by simp) _).set_ 0 _, ((hbx.trans hb9).setCell (p := ⟨w.heap.size + 1, 0, none⟩) (by simp) _).setCell (p := ⟨w.heap.size + 1 + 1, 0, none⟩) (by simp; omega) _⟩
       case measure => simp [intOf]; omega
     ·by_cases h64 : wd.length = 64
      ·have q1 : ((wd.length : Int) == 64) = true := by rw [h64]; rfl
       have HS : Hid (plS (es, wd, (-1 : Int)) (c, false) = ((flS (es, wd, -1)).1, [c], (-1 : Int))) := by unfold Hid; exact plS_cut (by rw [HO.out]; rfl) (by unfold cutS; rw [HO.out, decide_eq_true h64]; rfl)
       clear h64
       go_wp2_with fail
       refine hfl.mono ?_
       rintro e w9 ⟨rfl, hW9, ⟨u9, hO9, hu9⟩, hP9, hb9, hk9⟩
       have hX9 := hk9 _ _ hX
       unfold sV flS at hW9
       have fX9 := hX9.facts
       have fW9 := hW9.facts
       have fP9 := hP9.facts
       go_wp2
       go_roundw
       case rel => exact ⟨k + 1, by omega, by go_num, by rw [HT.out, HS.out]; unfold sV; rw [← HAE.out]; exact (hW9.set_ 0 _).far (p := ⟨w.heap.size + 1 + 1, 0, none⟩) (by simp) _, ⟨u9, by exact (hO9.far (p := ⟨w.heap.size + 1, 0, none⟩) (by simp) _).far (p := ⟨w.heap.size + 1 + 1, 0, none⟩) (by show w.heap.size ≠ w.heap.size + 1 + 1; omega) _, by rw [HT.out, HS.out]; exact (hu9.set (p := ⟨w.heap.size + 1, 0, none⟩) (Ne.symm (hu9.ne_blk hW9 (by decide))) _).set (p := ⟨w.heap.size + 1 + 1, 0, none⟩) (Ne.symm (hu9.ne_blk hP9 (by decide))) _⟩, by rw [HT.out, HS.out]; exact (hP9.far (p := ⟨w.heap.size + 1, 0, none⟩) (by simp) _).set_ 0 _, ((hbx.trans hb9).setCell (p := ⟨w.heap.size + 1, 0, none⟩) (by simp) _).setCell (p := ⟨w.heap.size + 1 + 1, 0, none⟩) (by simp; omega) _⟩
       case measure => simp [intOf]; omega
      ·have q1 : ((wd.length : Int) == 64) = false := beq_false_of_ne (by omega)
       have HS : Hid (plS (es, wd, (-1 : Int)) (c, false) = (es, wd ++ [c], (-1 : Int))) := by unfold Hid; exact plS_keep (by rw [HO.out]; rfl) (by unfold cutS; rw [HO.out, decide_eq_false h64]; rfl)
       clear h64
       go_wp2
       go_roundw
       case rel => exact ⟨k + 1, by omega, by go_num, by rw [HT.out, HS.out]; unfold sV; rw [← HAP.out]; exact (hW.set_ 0 _).far (p := ⟨w.heap.size + 1 + 1, 0, none⟩) (by simp) _, ⟨u, by exact (hO.far (p := ⟨w.heap.size + 1, 0, none⟩) (by simp) _).far (p := ⟨w.heap.size + 1 + 1, 0, none⟩) (by show w.heap.size ≠ w.heap.size + 1 + 1; omega) _, by rw [HT.out, HS.out]; exact (hu.set (p := ⟨w.heap.size + 1, 0, none⟩) (Ne.symm (hu.ne_blk hW (by decide))) _).set (p := ⟨w.heap.size + 1 + 1, 0, none⟩) (Ne.symm (hu.ne_blk hP (by decide))) _⟩, by rw [HT.out, HS.out]; exact (hP.far (p := ⟨w.heap.size + 1, 0, none⟩) (by simp) _).set_ 0 _, (hbx.setCell (p := ⟨w.heap.size + 1, 0, none⟩) (by simp) _).setCell (p := ⟨w.heap.size + 1 + 1, 0, none⟩) (by simp; omega) _⟩
       case measure => simp [intOf]; omega
  ·obtain rfl : k = l.length := by omega
   rw [List.take_length] at hW hu hP hel
   have hfl := flush_any w.heap.size (w.heap.size + 1) w.heap.size (w.heap.size + 1 + 1) w.heap.size (plF l) u wo hW hO hu hP (by omega) (by omega) (Nat.le_refl _) (by omega) (Nat.le_refl _) hbk.size
   go_wp2_with fail
   refine hfl.mono ?_
   rintro e w9 ⟨rfl, _, ⟨u9, hO9, hu9⟩, _, hb9, _⟩
   have f9 := hO9.facts
   go_wp2
   go_ret
   exact ⟨_, rfl, hu9, hbk.trans hb9⟩
theorem Blk.setF {W : World} {g g' i : Nat} {t : TypeId} {cs : Array Value} {u : Value} (h : Blk W g t cs) (hne : g ≠ g') : Blk (W.setCell ⟨g', i, none⟩ u) g t cs := (Below.heap_setCell W ⟨g', i, none⟩ u g hne).trans h
theorem timS_memb {e : Edg} {x : Stp} : ∀ {n : Nat}, x ∈ timS e n → x.1 ∈ e.1
 | 0, h => by cases h
 | n + 1, h => by
  rcases List.mem_append.1 h with h | h
  ·exact timS_memb h
  ·obtain ⟨c, hc, rfl⟩ := List.mem_map.1 h
   exact hc
theorem SideOk.ltrs {l : List Edg} (h : SideOk l) : ∀ x ∈ stpL l, ltr x.1 := by
 intro x hx
 unfold stpL at hx
 obtain ⟨e, he, hx⟩ := List.mem_flatMap.1 hx
 have hm := timS_memb hx
 obtain ⟨_, _, hw, _, _⟩ := edgE_zero (h.ok e he)
 unfold wrongW at hw
 rw [List.any_eq_false] at hw
 have := hw _ hm
 unfold ltr
 simp at this
 by_cases c1 : x.1 = 78
 ·exact .inl c1
 ·by_cases c2 : x.1 = 66
  ·exact .inr (.inl c2)
  ·exact .inr (.inr (this c1 c2))
theorem plainO_any (l : List Stp) (v : Value) (b : Nat) (w : World) (hO : Own sc 2 b 127 w v l) (hl : l.length ≤ 1000) (hc : ∀ x ∈ l, ltr x.1) :
  Calls Tryz.prog 69 #[v] w (RG ec 3 107 w (plnL l)) := by
 obtain ⟨A, c, rfl, _, _, hr⟩ := hO.rd sc_len
 exact plain_any l A c w hr hl hc
theorem lettersB_any (A : Option Addr) (n c : Nat) (w : World) : Calls Tryz.prog 67 #[.slice A n c] w fun e w' =>
    ∃ B, e = .returned (.func (.func 128) #[] #[.pointer (some ⟨B, 0, none⟩)]) ∧ Blk w' B 28 #[.slice A n c] ∧ Below w.heap.size w w' := by
  refine (letters_any A n c w).mono ?_
  rintro e w' ⟨rfl, rfl⟩
  exact ⟨_, rfl, Blk.new w _ _, bl_alloc bl_refl _⟩
theorem plainly_any {vL vR : Value} (p : Pan) (w : World) (hL : SlE w vL p.2.2.1) (hR : SlE w vR p.2.2.2) (hok : PanOk p) :
  Calls Tryz.prog 87 #[.agg #[sV p.1, .int .i64 p.2.1, vL, vR]] w (fun e w' => ∃ xL xR, e = .returned (.agg #[sV p.1, .int .i64 p.2.1, xL, xR]) ∧ Own ec 3 w.heap.size 107 w' xL (plnL (stpL p.2.2.1)) ∧ Own ec 3 w.heap.size 107 w' xR (plnL (stpL p.2.2.2)) ∧ Below w.heap.size w w') := by
 have ll := hok.left.len
 have lr := hok.right.len
 have tl := hok.left.ltrs
 have tr := hok.right.ltrs
 obtain ⟨AL, cL, rfl, _, _, rL⟩ := hL
 obtain ⟨AR, cR, rfl, _, _, rR⟩ := hR
 have kL := fun B W (hB : Blk W B 28 #[.slice AL p.2.2.1.length cL]) (hb : Below w.heap.size w W) => collectS_any B AL cL p.2.2.1 hok.left.sideOk W hB (rL.below hb)
 have kR := fun B W (hB : Blk W B 28 #[.slice AR p.2.2.2.length cR]) (hb : Below w.heap.size w W) => collectS_any B AR cR p.2.2.2 hok.right.sideOk W hB (rR.below hb)
 have pL := fun v b W (hO : Own sc 2 b 127 W v (stpL p.2.2.1)) => plainO_any (stpL p.2.2.1) v b W hO (by omega) tl
 have pR := fun v b W (hO : Own sc 2 b 127 W v (stpL p.2.2.2)) => plainO_any (stpL p.2.2.2) v b W hO (by omega) tr
 have hs : sV p.1 = .string ⟨p.1.toArray⟩ := rfl
 rw [hs]
 have hP := (Blk.new w 30 #[.string ⟨p.1.toArray⟩, .int .i64 p.2.1, .slice AL p.2.2.1.length cL, .slice AR p.2.2.2.length cR]).alloc (.cells zeroPV 30)
 have hZ := Blk.new1 w (.cells #[.string ⟨p.1.toArray⟩, .int .i64 p.2.1, .slice AL p.2.2.1.length cL, .slice AR p.2.2.2.length cR] 30) 30 zeroPV
 unfold zeroPV at hP hZ
 have fhP := hP.facts
 have fhZ := hZ.facts
 clear hok ll lr tl tr hs rL rR
 go_enter Tryz.func87, Tryz.ntmps87
 go_upto_region 1 with fail
 obtain ⟨x1, hx1⟩ : ∃ X, (w.alloc (.cells #[.string ⟨p.1.toArray⟩, .int .i64 p.2.1, .slice AL p.2.2.1.length cL, .slice AR p.2.2.2.length cR] 30)).alloc (.cells #[.string ⟨#[]⟩, .int .i64 0, .slice none 0 0, .slice none 0 0] 30) = X := ⟨_, rfl⟩
 have hb1 : Below w.heap.size w x1 := by rw [← hx1]; exact bl_alloc (bl_alloc bl_refl _) _
 rw [hx1] at hP hZ ⊢
 clear hx1
 replace fhP := hP.facts
 replace fhZ := hZ.facts
 refine wp_region_ords [0, 1, 5, 6] [(2, false), (3, false), (4, false), (10, true), (7, false), (8, false), (9, false)] [11, 12, 13] (by kernel_rfl) (by kernel_rfl) (fun d _ _ _ _ h => by cases d <;> exact h) ?_
 simp only [List.map_cons, List.map_nil, List.getD_cons_zero, List.getD_cons_succ]
 repeat (go_big_quiet_step (fail))
 refine wpQuiet_nil ?_
 refine wpMid_run rfl (fun K hK => ?_)
 go_simp
 refine (lettersB_any _ _ _ _).mono ?_
 rintro e w2 ⟨B2, rfl, hB2, hb2⟩
 refine hK _ _ (by (repeat first|exact J0|assumption|(apply J1;assumption)|apply J2|apply J3|apply J4)) ?_
 clear hK K
 have hP_w2 := hP.below (show Below _ _ w2 by (repeat first|exact J0|assumption|(apply J1;assumption)|apply J2|apply J3|apply J4))
 have fhP_w2 := hP_w2.facts
 have hZ_w2 := hZ.below (show Below _ _ w2 by (repeat first|exact J0|assumption|(apply J1;assumption)|apply J2|apply J3|apply J4))
 have fhZ_w2 := hZ_w2.facts
 refine wpMid_run rfl (fun K hK => ?_)
 go_simp
 refine (kL _ _ hB2 (by (repeat first|exact J0|assumption|(apply J1;assumption)|apply J2|apply J3|apply J4))).mono ?_
 rintro e w3 ⟨v3, rfl, hO3, hb3⟩
 refine hK _ _ (by (repeat first|exact J0|assumption|(apply J1;assumption)|apply J2|apply J3|apply J4)) ?_
 clear hK K
 have hP_w3 := hP.below (show Below _ _ w3 by (repeat first|exact J0|assumption|(apply J1;assumption)|apply J2|apply J3|apply J4))
 have fhP_w3 := hP_w3.facts
 have hZ_w3 := hZ.below (show Below _ _ w3 by (repeat first|exact J0|assumption|(apply J1;assumption)|apply J2|apply J3|apply J4))
 have fhZ_w3 := hZ_w3.facts
 refine wpMid_run rfl (fun K hK => ?_)
 go_simp
 refine (pL _ _ _ hO3).mono ?_
 rintro e w4 ⟨v4, rfl, hO4, hb4⟩
 refine hK _ _ (by (repeat first|exact J0|assumption|(apply J1;assumption)|apply J2|apply J3|apply J4)) ?_
 clear hK K
 have hP_w4 := hP.below (show Below _ _ w4 by (repeat first|exact J0|assumption|(apply J1;assumption)|apply J2|apply J3|apply J4))
 have fhP_w4 := hP_w4.facts
 have hZ_w4 := hZ.below (show Below _ _ w4 by (repeat first|exact J0|assumption|(apply J1;assumption)|apply J2|apply J3|apply J4))
 have fhZ_w4 := hZ_w4.facts
 obtain ⟨A4, c4, rfl⟩ := hO4.shape
 refine wpMid_take rfl ?_
 intro K hK
 go_big_quiet_op
 go_big_quiet_on
 refine wpMid_run rfl (fun K hK => ?_)
 go_simp
 refine (lettersB_any _ _ _ _).mono ?_
 rintro e w5 ⟨B5, rfl, hB5, hb5⟩
 refine hK _ _ (by (repeat first|exact J0|assumption|(apply J1;assumption)|apply J2|apply J3|apply J4)) ?_
 clear hK K
 have hP_w5 := hP.below (show Below _ _ w5 by (repeat first|exact J0|assumption|(apply J1;assumption)|apply J2|apply J3|apply J4))
 have fhP_w5 := hP_w5.facts
 have hZ_w5 := hZ.below (show Below _ _ w5 by (repeat first|exact J0|assumption|(apply J1;assumption)|apply J2|apply J3|apply J4))
 have fhZ_w5 := hZ_w5.facts
 refine wpMid_run rfl (fun K hK => ?_)
 go_simp
 refine (kR _ _ hB5 (by (repeat first|exact J0|assumption|(apply J1;assumption)|apply J2|apply J3|apply J4))).mono ?_
 rintro e w6 ⟨v6, rfl, hO6, hb6⟩
 refine hK _ _ (by (repeat first|exact J0|assumption|(apply J1;assumption)|apply J2|apply J3|apply J4)) ?_
 clear hK K
 have hP_w6 := hP.below (show Below _ _ w6 by (repeat first|exact J0|assumption|(apply J1;assumption)|apply J2|apply J3|apply J4))
 have fhP_w6 := hP_w6.facts
 have hZ_w6 := hZ.below (show Below _ _ w6 by (repeat first|exact J0|assumption|(apply J1;assumption)|apply J2|apply J3|apply J4))
 have fhZ_w6 := hZ_w6.facts
 refine wpMid_run rfl (fun K hK => ?_)
 go_simp
 refine (pR _ _ _ hO6).mono ?_
 rintro e w7 ⟨v7, rfl, hO7, hb7⟩
 refine hK _ _ (by (repeat first|exact J0|assumption|(apply J1;assumption)|apply J2|apply J3|apply J4)) ?_
 clear hK K
 have hP_w7 := hP.below (show Below _ _ w7 by (repeat first|exact J0|assumption|(apply J1;assumption)|apply J2|apply J3|apply J4))
 have fhP_w7 := hP_w7.facts
 have hZ_w7 := hZ.below (show Below _ _ w7 by (repeat first|exact J0|assumption|(apply J1;assumption)|apply J2|apply J3|apply J4))
 have fhZ_w7 := hZ_w7.facts
 obtain ⟨A7, c7, rfl⟩ := hO7.shape
 refine wpMid_nil ?_
 go_upto_region 2 with fail
 have oA := hO4.below (show Below w4.heap.size w4 w7 by (repeat first|exact J0|assumption|(apply J1;assumption)|apply J2|apply J3|apply J4))
 have oB := hO7
 have hz7 : w.heap.size + 1 < w7.heap.size := hZ_w7.lt
 have hs3 : w.heap.size + 2 ≤ w3.heap.size := Nat.le_trans (show w.heap.size + 2 ≤ x1.heap.size from hZ.lt) (show x1.heap.size ≤ w3.heap.size from Below.size (by (repeat first|exact J0|assumption|(apply J1;assumption)|apply J2|apply J3|apply J4)))
 have hs6 : w.heap.size + 2 ≤ w6.heap.size := Nat.le_trans (show w.heap.size + 2 ≤ x1.heap.size from hZ.lt) (show x1.heap.size ≤ w6.heap.size from Below.size (by (repeat first|exact J0|assumption|(apply J1;assumption)|apply J2|apply J3|apply J4)))
 have hbw7 : Below w.heap.size w w7 := by (repeat first|exact J0|assumption|(apply J1;assumption)|apply J2|apply J3|apply J4)
 obtain ⟨LA, hLA⟩ : ∃ n, (plnL (stpL p.2.2.1)).length = n := ⟨_, rfl⟩
 obtain ⟨LB, hLB⟩ : ∃ n, (plnL (stpL p.2.2.2)).length = n := ⟨_, rfl⟩
 rw [hLA] at oA ⊢
 rw [hLB] at oB ⊢
 have oA8 := (oA.set (p := ⟨w.heap.size, 2, none⟩) (fun e => by have := (oA.lt _ e).1; simp only at this; omega) (.slice A4 LA c4))
 have oB8 := (oB.set (p := ⟨w.heap.size, 2, none⟩) (fun e => by have := (oB.lt _ e).1; simp only at this; omega) (.slice A4 LA c4))
 have oA9 := (oA8.set (p := ⟨w.heap.size, 3, none⟩) (fun e => by have := (oA8.lt _ e).1; simp only at this; omega) (.slice A7 LB c7))
 have oB9 := (oB8.set (p := ⟨w.heap.size, 3, none⟩) (fun e => by have := (oB8.lt _ e).1; simp only at this; omega) (.slice A7 LB c7))
 have hP9 := (hP_w7.set_ 2 (.slice A4 LA c4)).set_ 3 (.slice A7 LB c7)
 have hZ9 := (hZ_w7.setF (g' := w.heap.size) (i := 2) (u := .slice A4 LA c4) (by omega)).setF (g' := w.heap.size) (i := 3) (u := .slice A7 LB c7) (by omega)
 have hb9 : Below w.heap.size w ((w7.setCell ⟨w.heap.size, 2, none⟩ (.slice A4 LA c4)).setCell ⟨w.heap.size, 3, none⟩ (.slice A7 LB c7)) := bl_set (bl_set hbw7 (Nat.le_refl _) _) (Nat.le_refl _) _
 obtain ⟨w9, hw9⟩ : ∃ X, (w7.setCell ⟨w.heap.size, 2, none⟩ (.slice A4 LA c4)).setCell ⟨w.heap.size, 3, none⟩ (.slice A7 LB c7) = X := ⟨_, rfl⟩
 rw [hw9] at oA9 oB9 hP9 hZ9 hb9 ⊢
 have hP9 : Blk w9 w.heap.size 30 #[.string ⟨p.1.toArray⟩, .int .i64 p.2.1, .slice A4 LA c4, .slice A7 LB c7] := hP9
 have fP9 := hP9.facts
 clear hw9 oA oB oA8 oB8 hP hZ fhP fhZ
 go_wp2_with (refine wpList_store_blk hZ9 rfl _ _ _ rfl rfl rfl (by rfl) (by kernel_rfl) (by kernel_rfl) ?_; intro w12 hZ12 hc12; have f12 := hZ12.facts)
 refine bodyPost_ret (v := .agg #[.string ⟨p.1.toArray⟩, .int .i64 p.2.1, .slice A4 LA c4, .slice A7 LB c7]) (by simp [results, Tryz.results87, go_sem, f12]) rfl ?_
 exact ⟨_, _, rfl, (oA9.chg hc12 (by simp; omega)).base_mono (by omega), (oB9.chg hc12 (by simp; omega)).base_mono (by omega), chg_bl hb9 hc12 (by omega)⟩
def plaQ (p : Pan) : Pan := (p.1, p.2.1, plnL (stpL p.2.2.1), plnL (stpL p.2.2.2))
theorem apiPlain_any {vL vR : Value} (p : Pan) (w : World) (hnm : p.1.length ≤ 1000000) (hL : SlE w vL p.2.2.1) (hR : SlE w vR p.2.2.2) :
    Calls Tryz.prog 27 #[.agg #[sV p.1, .int .i64 p.2.1, vL, vR]] w (RPN w (pcR (panE p) (plaQ p)) (pcE (panE p) (plaQ p))) := by
  have hc := fun W (hb : Below w.heap.size w W) => checkPanel_any p W hnm (hL.below hb) (hR.below hb)
  by_cases hE : panE p = 0
  · have hok := panE_zero hE
    have ll := hok.left.few
    have lr := hok.right.few
    have cp := fun W (hb : Below w.heap.size w W) => plainly_any p W (hL.below hb) (hR.below hb) hok
    have HQ : Hid (pcR (panE p) (plaQ p) = pcR 0 (plaQ p) ∧ pcE (panE p) (plaQ p) = panE (plaQ p)) := by unfold Hid; rw [hE]; exact ⟨rfl, by unfold pcE; rw [if_neg (by simp)]⟩
    rw [HQ.out.1, HQ.out.2]
    have hch := fun W vl vr hl hr => checked_any (vL := vl) (vR := vr) (plaQ p) W hnm hl hr
    rw [hE] at hc
    obtain ⟨AL, cL, rfl, _, _, _⟩ := hL
    obtain ⟨AR, cR, rfl, _, _, _⟩ := hR
    have HCH := Lib.hid hch
    obtain ⟨EQ, hEQ⟩ : ∃ E, panE (plaQ p) = E := ⟨_, rfl⟩
    rw [hEQ] at HCH ⊢
    have hs : sV p.1 = .string ⟨p.1.toArray⟩ := rfl
    rw [hs] at hc cp
    rw [hs]
    have hP := (Blk.new w 30 #[.string ⟨p.1.toArray⟩, .int .i64 p.2.1, .slice AL p.2.2.1.length cL, .slice AR p.2.2.2.length cR]).alloc (.cells zeroPV 30)
    have hZ := Blk.new1 w (.cells #[.string ⟨p.1.toArray⟩, .int .i64 p.2.1, .slice AL p.2.2.1.length cL, .slice AR p.2.2.2.length cR] 30) 30 zeroPV
    unfold zeroPV at hP hZ
    have fhP := hP.facts
    have fhZ := hZ.facts
    clear hE hEQ hnm hch hs HQ
    go_enter Tryz.func27, Tryz.ntmps27
    go_wp2_with fail
    refine (hc _ (by (repeat first|exact J0|assumption|(apply J1;assumption)|apply J2|apply J3|apply J4))).mono ?_
    rintro e w4 ⟨rfl, hb2⟩
    replace hP := hP.below (show Below _ _ w4 by (repeat first|exact J0|assumption|(apply J1;assumption)|apply J2|apply J3|apply J4))
    replace fhP := hP.facts
    replace hZ := hZ.below (show Below _ _ w4 by (repeat first|exact J0|assumption|(apply J1;assumption)|apply J2|apply J3|apply J4))
    replace fhZ := hZ.facts
    have hbw4 : Below w.heap.size w w4 := by (repeat first|exact J0|assumption|(apply J1;assumption)|apply J2|apply J3|apply J4)
    clear hc hb2
    have hz1 : w.heap.size + 1 < w4.heap.size := hZ.lt
    go_wp2_with fail
    refine (cp _ (by (repeat first|exact J0|assumption|(apply J1;assumption)|apply J2|apply J3|apply J4))).mono ?_
    rintro e w6 ⟨v5, v6, rfl, hO5, hO6, hb6⟩
    replace hP := hP.below (show Below _ _ w6 by (repeat first|exact J0|assumption|(apply J1;assumption)|apply J2|apply J3|apply J4))
    replace fhP := hP.facts
    replace hZ := hZ.below (show Below _ _ w6 by (repeat first|exact J0|assumption|(apply J1;assumption)|apply J2|apply J3|apply J4))
    replace fhZ := hZ.facts
    go_wp2_with fail
    refine (HCH.out _ _ _ (hO5.rd ec_len) (hO6.rd ec_len)).mono ?_
    rintro e w7 ⟨rfl, hb7⟩
    replace hP := hP.below (show Below _ _ w7 by (repeat first|exact J0|assumption|(apply J1;assumption)|apply J2|apply J3|apply J4))
    replace fhP := hP.facts
    replace hZ := hZ.below (show Below _ _ w7 by (repeat first|exact J0|assumption|(apply J1;assumption)|apply J2|apply J3|apply J4))
    replace fhZ := hZ.facts
    obtain ⟨A7, c7, A77, c77, hcv, hu1, hu2⟩ := checked_own (plaQ p) w6 w7 hO5 hO6 hb7
    rw [hcv]
    obtain ⟨Q, hQ⟩ : ∃ Q, pcR 0 (plaQ p) = Q := ⟨_, rfl⟩
    rw [hQ] at hu1 hu2 ⊢
    have HQQ := Lib.hid hQ
    clear hQ
    have hbb : Below w4.heap.size w4 w7 := by (repeat first|exact J0|assumption|(apply J1;assumption)|apply J2|apply J3|apply J4)
    go_wp2_with (refine wpList_store_blk hZ rfl _ _ _ rfl rfl rfl (by rfl) (by kernel_rfl) (by kernel_rfl) ?_; intro w12 hZ12 hc12; have f12 := hZ12.facts)
    refine bodyPost_ret (v := .tuple #[.agg #[.string ⟨Q.1.toArray⟩, .int .i64 Q.2.1, .slice A7 Q.2.2.1.length c7, .slice A77 Q.2.2.2.length c77], .int .i64 EQ]) (by simp [results, Tryz.results27, go_sem, f12]) rfl ?_
    obtain rfl := HQQ.out
    exact ⟨_, _, rfl, (hu1.chg hc12 (by simp; omega)).base_mono hbw4.size, (hu2.chg hc12 (by simp; omega)).base_mono hbw4.size, chg_bl (bl_then hbb hbw4) hc12 (by omega)⟩
  · have HQ : Hid (pcR (panE p) (plaQ p) = panZ ∧ pcE (panE p) (plaQ p) = panE p) := by
      have e : pcE (panE p) (plaQ p) = panE p := by unfold pcE; rw [if_pos hE]
      exact ⟨by unfold pcR; rw [e, if_neg hE], e⟩
    rw [HQ.out.1, HQ.out.2]
    have t0 : (panE p != 0) = true := by simp [hE]
    obtain ⟨E, hEE⟩ : ∃ E, panE p = E := ⟨_, rfl⟩
    rw [hEE] at hc t0 ⊢
    obtain ⟨AL, cL, rfl, _, _, _⟩ := hL
    obtain ⟨AR, cR, rfl, _, _, _⟩ := hR
    have hs : sV p.1 = .string ⟨p.1.toArray⟩ := rfl
    rw [hs] at hc
    rw [hs]
    have hP := (Blk.new w 30 #[.string ⟨p.1.toArray⟩, .int .i64 p.2.1, .slice AL p.2.2.1.length cL, .slice AR p.2.2.2.length cR]).alloc (.cells zeroPV 30)
    have hZ := Blk.new1 w (.cells #[.string ⟨p.1.toArray⟩, .int .i64 p.2.1, .slice AL p.2.2.1.length cL, .slice AR p.2.2.2.length cR] 30) 30 zeroPV
    unfold zeroPV at hP hZ
    have fhP := hP.facts
    have fhZ := hZ.facts
    clear hE hEE hnm hs HQ
    go_enter Tryz.func27, Tryz.ntmps27
    go_wp2_with fail
    refine (hc _ (by (repeat first|exact J0|assumption|(apply J1;assumption)|apply J2|apply J3|apply J4))).mono ?_
    rintro e w2 ⟨rfl, hb2⟩
    replace hP := hP.below (show Below _ _ w2 by (repeat first|exact J0|assumption|(apply J1;assumption)|apply J2|apply J3|apply J4))
    replace fhP := hP.facts
    replace hZ := hZ.below (show Below _ _ w2 by (repeat first|exact J0|assumption|(apply J1;assumption)|apply J2|apply J3|apply J4))
    replace fhZ := hZ.facts
    go_wp2_with (refine wpList_store_blk hZ rfl _ _ _ rfl rfl rfl (by rfl) (by kernel_rfl) (by kernel_rfl) ?_; intro w12 hZ12 hc12; have f12 := hZ12.facts)
    refine bodyPost_ret (v := .tuple #[.agg #[.string ⟨#[]⟩, .int .i64 0, .slice none 0 0, .slice none 0 0], .int .i64 E]) (by simp [results, Tryz.results27, go_sem, f12]) rfl ?_
    exact ⟨_, _, rfl, Own.nil_, Own.nil_, chg_bl (by (repeat first|exact J0|assumption|(apply J1;assumption)|apply J2|apply J3|apply J4)) hc12 (by omega)⟩
theorem refO_len (l : List Stp) : (refO (plF l)).length ≤ l.length := by
 have h : ∀ (l : List Stp) (s : PlS), PlOk s → (refO (l.foldl plS s)).length ≤ (refO s).length + l.length := by
  intro l
  induction l with
  | nil => intro s _; exact Nat.le_refl _
  | cons x r ih =>
   intro s hs
   have h1 := ih (plS s x) (plS_ok hs x).1
   have h2 : (refO (plS s x)).length ≤ (refO s).length + 1 := by
    by_cases hc : cutS s x = true
    ·rw [plR_cut hs hc, refO_put _ (by simp)]
     simp
    ·have hc : cutS s x = false := by simpa using hc
     have h3 : s.1.length ≤ (refO s).length := by unfold refO; split <;> simp
     rw [plR_on hs hc, refO_put _ (by simp), List.length_append]
     simp only [List.length_cons, List.length_nil]
     omega
   rw [List.foldl_cons, List.length_cons]
   omega
 have := h l ([], [], 0) ⟨.inl rfl, by simp⟩
 have e : refO ([], [], 0) = [] := rfl
 rw [e] at this
 unfold plF
 simpa using this
theorem one_byte (w : World) (c : UInt8) : Rd yc 1 (w.alloc (.cells #[.int .u8 c.toNat] 5)) (some ⟨w.heap.size, 0, none⟩) [c] := by
 have hu := Sl.oneG (enc := yc) (sz := 1) w 5 c #[.int .u8 c.toNat] rfl
 obtain ⟨A, d, e, _, _, hr⟩ := hu
 obtain ⟨rfl, _⟩ : some (⟨w.heap.size, 0, none⟩ : Addr) = A ∧ 1 = d := by simpa using e
 exact hr
theorem rplain_any {v : Value} (l : List Stp) (w : World) (h : SlS w v l) (hl : l.length ≤ 1000) :
    Calls Tryz.prog 84 #[v] w (RG ec 3 132 w (plnL l)) := by
  obtain ⟨A, c, rfl, _, _, hr⟩ := h
  have HOK := Lib.hid (fun k => plF_ok (l.take k))
  have HW := Lib.hid (fun (k : Nat) (h0 : 0 < k) (h1 : k ≤ l.length) => plF_word (l := l.take k) (by intro e; have := congrArg List.length e; rw [List.length_take, List.length_nil] at this; omega))
  have HT := Lib.hid (fun k (hk : k < l.length) => (show plF (l.take (k + 1)) = plS (plF (l.take k)) l[k] by rw [List.take_succ_eq_append_getElem hk, plF_snoc]))
  have HE : Hid (refO (plF (l.take l.length)) = plnL l) := by unfold Hid; rw [List.take_length, refO_end]
  have HL := Lib.hid (fun k => refO_len (l.take k))
  have H0 : Hid (plF (l.take 0) = ([], [], 0)) := rfl
  go_enter Tryz.func84, Tryz.ntmps84
  go_wp2
  go_loopw [3, 4, 5] (fun s3 s4 s5 wr => ∃ k : Nat, k ≤ l.length ∧ s5 = .int .i64 k ∧ s4 = .int .i64 (plF (l.take k)).2.2 ∧ Own ec 3 w.heap.size 132 wr s3 (refO (plF (l.take k))) ∧ Below w.heap.size w wr) (fun _ _ s _ => l.length - (intOf s).toNat)
  case atStart => exact ⟨0, Nat.zero_le _, rfl, rfl, Own.nil_, by (repeat first|exact J0|assumption|(apply J1;assumption)|apply J2|apply J3|apply J4)⟩
  case round =>
    obtain ⟨k, hk, rfl, rfl, hO, hbk⟩ := hrel
    obtain ⟨wo, rfl⟩ : ∃ x, x = wr := ⟨_, rfl⟩
    by_cases hlt : k < l.length
    · obtain ⟨b, off, rfl, hb, e0, e1⟩ := (hr.below hbk).stp hlt
      have hT := HT.out k hlt
      have hW := HW.out k
      have hOK := HOK.out k
      have hLn := HL.out k
      rw [List.length_take] at hLn
      have h0 : k = 0 → plF (l.take k) = ([], [], 0) := fun e => by subst e; exact H0.out
      obtain ⟨⟨c, o⟩, hx⟩ : ∃ z, l[k] = z := ⟨_, rfl⟩
      rw [hx] at e0 e1 hT
      simp only at e0 e1
      obtain ⟨⟨E, wd, y⟩, hs⟩ : ∃ z, plF (l.take k) = z := ⟨_, rfl⟩
      rw [hs] at hT hW hOK hLn h0 hO
      rw [hs]
      obtain ⟨own, hown⟩ : ∃ z, ownW (c, o) = z := ⟨_, rfl⟩
      have howr := ownW_range (c, o)
      rw [hown] at howr
      have HOWN := Lib.hid hown
      have HX := Lib.hid hx
      have HTT := Lib.hid hT
      have hyr := hOK.way
      have hwl := hOK.len
      simp only at hyr hwl hW hO
      have hcl : (c.toNat : Int) ≤ 255 := by have := c.toNat_lt; omega
      clear hx hs hown hT
      simp only
      go_upto_if 19 with fail
      go_cut [6] from 14 to 24 (fun s6 wx => s6 = .int .i64 own ∧ wx = wo)
      case first =>
        by_cases hc : c = 78
        · have tc : ((c.toNat : Int) != 78) = false := by rw [hc]; rfl
          have hz : own = 0 := by have := HOWN.out; unfold ownW at this; rw [if_pos hc] at this; exact this.symm
          go_wp2
          go_meet
          case rel => exact ⟨by rw [hz], rfl⟩
        · have tc : ((c.toNat : Int) != 78) = true := by
            rw [bne_iff_ne]
            intro e
            exact hc (UInt8.toNat_inj.1 (by rw [show (78 : UInt8).toNat = 78 from rfl]; omega))
          cases o
          · have hz : own = -1 := by have := HOWN.out; unfold ownW at this; rw [if_neg hc] at this; exact this.symm
            go_wp2
            go_meet
            case rel => exact ⟨by rw [hz], rfl⟩
          · have hz : own = 1 := by have := HOWN.out; unfold ownW at this; rw [if_neg hc] at this; exact this.symm
            go_wp2
            go_meet
            case rel => exact ⟨by rw [hz], rfl⟩
      case rest =>
        obtain ⟨rfl, hwc⟩ := hcut
        subst hwc
        obtain ⟨wp, rfl⟩ : ∃ x, x = wc := ⟨_, rfl⟩
        obtain ⟨A3, c3, rfl⟩ := hO.shape
        obtain ⟨n, hn⟩ : ∃ n, (refO (E, wd, y)).length = n := ⟨_, rfl⟩
        rw [hn]
        obtain ⟨CB, hCB⟩ : ∃ q : Bool, (decide (k = 0) || cutS (E, wd, y) (c, o)) = q := ⟨_, rfl⟩
        have HCB := Lib.hid hCB
        have HC : Hid (cutS (E, wd, y) (c, o) = (decide (wd.length = 64) || decide (own * y < 0))) := by unfold Hid cutS; rw [← HOWN.out]
        have HTR : Hid (CB = true → plS (E, wd, y) (c, o) = (refO (E, wd, y), [c], own)) := fun hq => by
          rw [← HCB.out, Bool.or_eq_true] at hq
          by_cases hcu : cutS (E, wd, y) (c, o) = true
          · rw [plR_cut hOK hcu, ← HOWN.out]
          · have hz := h0 (of_decide_eq_true (hq.resolve_right hcu))
            have hcu : cutS (E, wd, y) (c, o) = false := by simpa using hcu
            rw [plR_on hOK hcu, ← HOWN.out]
            obtain ⟨rfl, rfl, rfl⟩ : E = [] ∧ wd = [] ∧ y = 0 := by simpa using hz
            rfl
        have HFA : Hid (CB = false → 0 < k ∧ plS (E, wd, y) (c, o) = (E, wd ++ [c], if y = 0 then own else y)) := fun hq => by
          rw [← HCB.out, Bool.or_eq_false_iff] at hq
          refine ⟨?_, by rw [plR_on hOK hq.2, ← HOWN.out]⟩
          have := of_decide_eq_false hq.1
          omega
        have HOUT : Hid (0 < k → n = E.length + 1 ∧ refO (E, wd, y) = E ++ [(wd, 1, decide (y = 1))]) := fun hq => by
          have href : refO (E, wd, y) = E ++ [(wd, 1, decide (y = 1))] := refO_put E (hW hq (by omega)) y
          exact ⟨by rw [← hn, href]; simp, href⟩
        clear hCB
        obtain ⟨z, hz⟩ : ∃ z : Int, (n : Int) - 1 = z := ⟨_, rfl⟩
        have HZ := Lib.hid hz
        clear hz
        go_upto_region 12 with fail
        go_cut [7, 51] from 25 to 51 (fun s7 s51 wx => s7 = .int .i64 z ∧ s51 = .bool CB ∧ wx = wp)
        case first =>
          have HCB2 : Hid (CB = (decide (k = 0) || (decide (wd.length = 64) || decide (own * y < 0)))) := by unfold Hid; rw [← HCB.out, HC.out]
          clear HTR HFA HCB HC
          by_cases hk0 : k = 0
          · have hcb : CB = true := by rw [HCB2.out, decide_eq_true hk0]; rfl
            subst hk0
            clear HCB2 h0 hW hOK hn HOUT
            go_wp2_with fail
            go_meet
            case rel => exact ⟨congrArg (Value.int .i64) (by have := HZ.out; omega), by rw [hcb], rfl⟩
          · have tk : ((k : Int) == 0) = false := beq_false_of_ne (by omega)
            obtain ⟨hn1, href⟩ := HOUT.out (by omega)
            have hrE : (refO (E, wd, y))[E.length]? = some (wd, 1, decide (y = 1)) := by rw [href]; simp
            obtain ⟨_, _, he3, _, _, hr3⟩ := hO.rd ec_len
            obtain ⟨rfl, rfl⟩ : A3 = _ ∧ c3 = _ := by simpa using he3
            obtain ⟨hEl, hEg⟩ := List.getElem?_eq_some_iff.1 hrE
            obtain ⟨b3, off3, hA3, hb3, p0, p1, p2⟩ := hr3.edge hEl
            rw [hEg] at p0 p1 p2
            simp only at p0 p1 p2
            subst hA3
            have en : ((n : Nat) : Int) - 1 = (E.length : Int) := by omega
            have hEn : E.length < n := by omega
            have hEl2 : E.length ≤ 1000 := by omega
            have hK : decide (k = 0) = false := decide_eq_false hk0
            rw [hK, Bool.false_or] at HCB2
            clear hK hk0 hrE hEl hEg href hn1 h0 hW hOK hn HOUT he3
            by_cases h64 : wd.length = 64
            · have t64 : ((wd.length : Int) == 64) = true := by rw [h64]; rfl
              have hcb : CB = true := by rw [HCB2.out, decide_eq_true h64]; rfl
              clear HCB2 h64
              go_wp2_with fail
              go_meet
              case rel => exact ⟨congrArg (Value.int .i64) (by have := HZ.out; omega), by rw [hcb], rfl⟩
            · have t64 : ((wd.length : Int) == 64) = false := beq_false_of_ne (by omega)
              rw [decide_eq_false h64, Bool.false_or] at HCB2
              clear h64
              rcases howr with rfl | rfl | rfl <;> rcases hyr with rfl | rfl | rfl
              all_goals
                have hcb := HCB2.out
                simp only [Int.reduceMul, Int.reduceNeg, Int.reduceLT, decide_true, decide_false] at hcb
                clear HCB2
                go_wp2_with fail
                go_meet
                case rel => exact ⟨congrArg (Value.int .i64) (by have := HZ.out; omega), by rw [hcb], rfl⟩
        case rest =>
          obtain ⟨rfl, rfl, hwc⟩ := hcut
          subst hwc
          have hz := HZ.out
          obtain ⟨wq, rfl⟩ : ∃ x, x = wc := ⟨_, rfl⟩
          have hsz := hbk.size
          cases CB
          · obtain ⟨hkp, HP⟩ := HFA.out rfl
            obtain ⟨hn1, href⟩ := HOUT.out hkp
            rw [href] at hO
            have en : z = (E.length : Int) := by omega
            have hbk3 := hbk
            obtain ⟨E', hE'⟩ : ∃ z, E = z := ⟨_, rfl⟩
            obtain ⟨wd', hwd'⟩ : ∃ z, wd = z := ⟨_, rfl⟩
            obtain ⟨q, hq⟩ : ∃ z, decide (y = 1) = z := ⟨_, rfl⟩
            have HP' : Hid (plS (E, wd, y) (c, o) = (E', wd' ++ [c], if y = 0 then own else y)) := by unfold Hid; rw [HP, hE', hwd']
            rw [hq, hE', hwd'] at hO
            rw [hE'] at en
            have hEl : E'.length ≤ 1000 := by omega
            have hwl3 : wd'.length ≤ 64 := by rw [← hwd']; exact hwl
            have hn2 : n = E'.length + 1 := by omega
            clear HFA HTR HC HOUT HP href hq hE' hwd' hn h0 hW hOK howr hyr hkp hn1
            obtain ⟨wx, rfl⟩ : ∃ x, x = wq := ⟨_, rfl⟩
            have hO3 := hO
            rw [hn2, en]
            clear hO en hz
            obtain ⟨L, hL⟩ : ∃ L, E' ++ [(wd', 1, q)] = L := ⟨_, rfl⟩
            have hLl : L.length = E'.length + 1 := by rw [← hL]; simp
            have hmg : L[E'.length]? = some (wd', 1, q) := by rw [← hL]; simp
            have HLS : Hid (∀ z : Edg, L.set E'.length z = E' ++ [z]) := fun z => by rw [← hL, List.set_append_right _ _ (Nat.le_refl _)]; simp
            rw [show (E' ++ [((wd', 1, q) : Edg)]).length = E'.length + 1 by simp] at hO3
            rw [hL] at hO3
            clear hL
            obtain ⟨g, rfl⟩ : ∃ g, A3 = some ⟨g, 0, none⟩ := by
              rcases hO3.2 with ⟨_, hn⟩ | ⟨g, cap, cur, hv, _⟩
              · omega
              · exact ⟨g, (Value.slice.inj hv).1⟩
            obtain ⟨_, hgw, tail, hB, hback⟩ := own_rowT ec_len hO3
            have HBK := Lib.hid hback
            have c0 := rowT_get ec_len tail hmg (j := 0) (by decide)
            have d0 : wx.cell? ⟨g, E'.length * 3, none⟩ = some (sV wd') := by have := hB.cell (E'.length * 3 + 0); rw [c0] at this; exact this
            have c2 := rowT_get ec_len tail hmg (j := 2) (by decide)
            have d2 : wx.cell? ⟨g, E'.length * 3 + 2, none⟩ = some (.bool q) := by rw [hB.cell, c2]; rfl
            unfold sV at d0
            obtain ⟨b', off', hA', hb', f0, f1⟩ := (hr.below hbk3).stp hlt
            obtain ⟨rfl, rfl⟩ : b = b' ∧ off = off' := by simpa using hA'
            rw [HX.out] at f0
            clear hA' f1 e0 e1 c0 c2 hback
            have fB := hB.facts
            have hEn : E'.length < E'.length + 1 := by omega
            by_cases hy0 : y = 0
            · have ty : (y == 0) = true := by simpa using hy0
              have HPY : Hid (plS (E, wd, y) (c, o) = (E', wd' ++ [c], own)) := by unfold Hid; rw [HP'.out, if_pos hy0]
              go_upto_region 18 with fail
              have hcv : (convert 160 9 (.slice (some ⟨wx.heap.size, 0, none⟩) 1 1)).run Tryz.prog (wx.alloc (.cells #[.int .u8 c.toNat] 5)).drew = .ok (.string ⟨#[c]⟩) (wx.alloc (.cells #[.int .u8 c.toNat] 5)).drew := bytes_back _ wx.heap.size 1 [c] (one_byte wx c).drew
              have happ := app_str wd' c
              obtain ⟨Bs, hBs⟩ : ∃ B : ByteArray, ({ data := (wd' ++ [c]).toArray } : ByteArray) = B := ⟨_, rfl⟩
              rw [hBs] at happ
              have HSV : Hid (sV (wd' ++ [c]) = .string Bs) := by unfold Hid sV; rw [hBs]
              have hsz : ({ data := wd'.toArray } : ByteArray).size = wd'.length := rfl
              have hlim : (9223372036854775807 < wd'.length + 1) = False := eq_false (by omega)
              have hs1 : ({ data := #[c] } : ByteArray).size = 1 := rfl
              clear hBs
              have r0 := rowT_set ec_len tail (j := 0) (u := .string Bs) (wd' ++ [c], 1, q) hmg (by decide) (by rw [← HSV.out]; rfl)
              have hm1 : (L.set E'.length ((wd' ++ [c], 1, q) : Edg))[E'.length]? = some ((wd' ++ [c], 1, q) : Edg) := List.getElem?_set_self (by omega)
              have r2 := rowT_set ec_len tail (j := 2) (u := .bool (own == 1)) (wd' ++ [c], 1, (own == 1)) hm1 (by decide) rfl
              simp only [Nat.add_zero] at r0
              have hS0 := (hB.set_ (E'.length * 3) (.string Bs)).set_ (E'.length * 3 + 2) (.bool (own == 1))
              rw [r0, r2, List.set_set, HLS.out] at hS0
              have hS := (hS0.alloc (.cells #[.int .u8 c.toNat] 5)).drew
              have hOS := HBK.out _ _ (by simp; omega) hS
              have hbS := bl_drew (bl_alloc (bl_set (bl_set hbk3 hgw (.string Bs) (p := ⟨g, E'.length * 3, none⟩)) hgw (.bool (own == 1)) (p := ⟨g, E'.length * 3 + 2, none⟩)) (.cells #[.int .u8 c.toNat] 5))
              have HF : Hid (plF (l.take (k + 1)) = (E', wd' ++ [c], own)) := by unfold Hid; rw [HTT.out, HPY.out]
              have HR : Hid (refO (plF (l.take (k + 1))) = E' ++ [(wd' ++ [c], 1, (own == 1))]) := by unfold Hid; rw [HF.out, refO_put _ (by simp)]; rfl
              clear r0 r2 hm1 hmg hS hS0
              refine wp_region_ords [0, 1, 2, 3, 4, 5, 6, 7, 8, 9, 10, 11] [(12, false), (13, false), (14, false)] [15, 16, 17] (by kernel_rfl) (by kernel_rfl) (fun d _ _ _ _ h => by cases d <;> exact h) ?_
              simp only [List.map_cons, List.map_nil, List.getD_cons_zero, List.getD_cons_succ]
              repeat (go_big_quiet_step (fail))
              refine wpQuiet_nil ?_
              refine wpMid_run rfl (fun K hK => ?_)
              go_simp
              refine hK _ _ (by (repeat first|exact J0|assumption|(apply J1;assumption)|apply J2|apply J3|apply J4)) ?_
              clear hK K
              refine wpMid_run rfl (fun K hK => ?_)
              go_simp
              refine hK _ _ (by (repeat first|exact J0|assumption|(apply J1;assumption)|apply J2|apply J3|apply J4)) ?_
              clear hK K
              refine wpMid_run rfl (fun K hK => ?_)
              go_simp
              refine hK _ _ (by (repeat first|exact J0|assumption|(apply J1;assumption)|apply J2|apply J3|apply J4)) ?_
              clear hK K
              refine wpMid_nil ?_
              go_wp2
              go_roundw
              case rel => exact ⟨k + 1, by omega, by go_num, by rw [HF.out], by rw [HR.out]; exact hOS, hbS⟩
              case measure => simp [intOf]; omega
            · have ty : (y == 0) = false := beq_false_of_ne hy0
              have HPY : Hid (plS (E, wd, y) (c, o) = (E', wd' ++ [c], y)) := by unfold Hid; rw [HP'.out, if_neg hy0]
              go_upto_region 18 with fail
              have hcv : (convert 160 9 (.slice (some ⟨wx.heap.size, 0, none⟩) 1 1)).run Tryz.prog (wx.alloc (.cells #[.int .u8 c.toNat] 5)).drew = .ok (.string ⟨#[c]⟩) (wx.alloc (.cells #[.int .u8 c.toNat] 5)).drew := bytes_back _ wx.heap.size 1 [c] (one_byte wx c).drew
              have happ := app_str wd' c
              obtain ⟨Bs, hBs⟩ : ∃ B : ByteArray, ({ data := (wd' ++ [c]).toArray } : ByteArray) = B := ⟨_, rfl⟩
              rw [hBs] at happ
              have HSV : Hid (sV (wd' ++ [c]) = .string Bs) := by unfold Hid sV; rw [hBs]
              have hsz : ({ data := wd'.toArray } : ByteArray).size = wd'.length := rfl
              have hlim : (9223372036854775807 < wd'.length + 1) = False := eq_false (by omega)
              have hs1 : ({ data := #[c] } : ByteArray).size = 1 := rfl
              clear hBs
              have r0 := rowT_set ec_len tail (j := 0) (u := .string Bs) (wd' ++ [c], 1, q) hmg (by decide) (by rw [← HSV.out]; rfl)
              have hm1 : (L.set E'.length ((wd' ++ [c], 1, q) : Edg))[E'.length]? = some ((wd' ++ [c], 1, q) : Edg) := List.getElem?_set_self (by omega)
              have r2 := rowT_set ec_len tail (j := 2) (u := .bool (y == 1)) (wd' ++ [c], 1, (y == 1)) hm1 (by decide) rfl
              simp only [Nat.add_zero] at r0
              have hS0 := (hB.set_ (E'.length * 3) (.string Bs)).set_ (E'.length * 3 + 2) (.bool (y == 1))
              rw [r0, r2, List.set_set, HLS.out] at hS0
              have hS := (hS0.alloc (.cells #[.int .u8 c.toNat] 5)).drew
              have hOS := HBK.out _ _ (by simp; omega) hS
              have hbS := bl_drew (bl_alloc (bl_set (bl_set hbk3 hgw (.string Bs) (p := ⟨g, E'.length * 3, none⟩)) hgw (.bool (y == 1)) (p := ⟨g, E'.length * 3 + 2, none⟩)) (.cells #[.int .u8 c.toNat] 5))
              have HF : Hid (plF (l.take (k + 1)) = (E', wd' ++ [c], y)) := by unfold Hid; rw [HTT.out, HPY.out]
              have HR : Hid (refO (plF (l.take (k + 1))) = E' ++ [(wd' ++ [c], 1, (y == 1))]) := by unfold Hid; rw [HF.out, refO_put _ (by simp)]; rfl
              clear r0 r2 hm1 hmg hS hS0
              refine wp_region_ords [0, 1, 2, 3, 4, 5, 6, 7, 8, 9, 10, 11] [(12, false), (13, false), (14, false)] [15, 16, 17] (by kernel_rfl) (by kernel_rfl) (fun d _ _ _ _ h => by cases d <;> exact h) ?_
              simp only [List.map_cons, List.map_nil, List.getD_cons_zero, List.getD_cons_succ]
              repeat (go_big_quiet_step (fail))
              refine wpQuiet_nil ?_
              refine wpMid_run rfl (fun K hK => ?_)
              go_simp
              refine hK _ _ (by (repeat first|exact J0|assumption|(apply J1;assumption)|apply J2|apply J3|apply J4)) ?_
              clear hK K
              refine wpMid_run rfl (fun K hK => ?_)
              go_simp
              refine hK _ _ (by (repeat first|exact J0|assumption|(apply J1;assumption)|apply J2|apply J3|apply J4)) ?_
              clear hK K
              refine wpMid_run rfl (fun K hK => ?_)
              go_simp
              refine hK _ _ (by (repeat first|exact J0|assumption|(apply J1;assumption)|apply J2|apply J3|apply J4)) ?_
              clear hK K
              refine wpMid_nil ?_
              go_wp2
              go_roundw
              case rel => exact ⟨k + 1, by omega, by go_num, by rw [HF.out], by rw [HR.out]; exact hOS, hbS⟩
              case measure => simp [intOf]; omega
          · have HP := HTR.out rfl
            have hu := Sl.oneG (enc := ec) (sz := 3) wq 132 ([], 1, false) #[.string ⟨#[]⟩, .int .i64 1, .bool false] rfl
            have hal : Below wq.heap.size wq (wq.alloc (.cells #[.string ⟨#[]⟩, .int .i64 1, .bool false] 132)) := bl_alloc bl_refl _
            have hwz := hal.size
            obtain ⟨E', hE'⟩ : ∃ z, refO (E, wd, y) = z := ⟨_, rfl⟩
            rw [hE'] at HP hO hn hLn
            have hEl : E'.length ≤ 1000 := by omega
            clear HFA HTR HC HOUT hE' h0 hW hOK howr hyr
            subst hn
            go_upto_region 16 with (at_builtin; refine wpList_app rfl redge_elem ec_len ec_one _ _ rfl w.heap.size _ _ _ [([], 1, false)] rfl rfl (hO.alloc _) hu (by simp [maxLen]; omega) (by simp; omega) (by omega) ?_; intro v3 w3 hu3 hgr3)
            have hbk3 : Below w.heap.size w w3 := bl_grown hgr3 (bl_alloc hbk _) (fun j e => (hO.lt j e).1)
            obtain ⟨wx, rfl⟩ : ∃ x, x = w3 := ⟨_, rfl⟩
            obtain ⟨wd', hwd'⟩ : ∃ z : List UInt8, [] = z := ⟨_, rfl⟩
            obtain ⟨q, hq⟩ : ∃ z, false = z := ⟨_, rfl⟩
            have hO3 := hu3
            rw [hwd', hq] at hO3
            have hwl3 : wd'.length ≤ 64 := by rw [← hwd']; simp
            have HPY : Hid (plS (E, wd, y) (c, o) = (E', wd' ++ [c], own)) := by unfold Hid; rw [HP, ← hwd']; rfl
            obtain ⟨A9, c9, rfl⟩ := hu3.shape
            have en : z + 1 = (E'.length : Int) := by omega
            rw [en]
            clear en hz
            clear hO hu3 hgr3 hu hal hwd' hq HP
            obtain ⟨L, hL⟩ : ∃ L, E' ++ [(wd', 1, q)] = L := ⟨_, rfl⟩
            have hLl : L.length = E'.length + 1 := by rw [← hL]; simp
            have hmg : L[E'.length]? = some (wd', 1, q) := by rw [← hL]; simp
            have HLS : Hid (∀ z : Edg, L.set E'.length z = E' ++ [z]) := fun z => by rw [← hL, List.set_append_right _ _ (Nat.le_refl _)]; simp
            rw [show (E' ++ [(([], 1, false) : Edg)]).length = E'.length + 1 by simp] at hO3 ⊢
            rw [hL] at hO3
            clear hL
            obtain ⟨g, rfl⟩ : ∃ g, A9 = some ⟨g, 0, none⟩ := by
              rcases hO3.2 with ⟨_, hn⟩ | ⟨g, cap, cur, hv, _⟩
              · omega
              · exact ⟨g, (Value.slice.inj hv).1⟩
            obtain ⟨_, hgw, tail, hB, hback⟩ := own_rowT ec_len hO3
            have HBK := Lib.hid hback
            have c0 := rowT_get ec_len tail hmg (j := 0) (by decide)
            have d0 : wx.cell? ⟨g, E'.length * 3, none⟩ = some (sV wd') := by have := hB.cell (E'.length * 3 + 0); rw [c0] at this; exact this
            have c2 := rowT_get ec_len tail hmg (j := 2) (by decide)
            have d2 : wx.cell? ⟨g, E'.length * 3 + 2, none⟩ = some (.bool q) := by rw [hB.cell, c2]; rfl
            unfold sV at d0
            obtain ⟨b', off', hA', hb', f0, f1⟩ := (hr.below hbk3).stp hlt
            obtain ⟨rfl, rfl⟩ : b = b' ∧ off = off' := by simpa using hA'
            rw [HX.out] at f0
            clear hA' f1 e0 e1 c0 c2 hback
            have fB := hB.facts
            have hEn : E'.length < E'.length + 1 := by omega
            go_upto_region 18 with fail
            have hcv : (convert 160 9 (.slice (some ⟨wx.heap.size, 0, none⟩) 1 1)).run Tryz.prog (wx.alloc (.cells #[.int .u8 c.toNat] 5)).drew = .ok (.string ⟨#[c]⟩) (wx.alloc (.cells #[.int .u8 c.toNat] 5)).drew := bytes_back _ wx.heap.size 1 [c] (one_byte wx c).drew
            have happ := app_str wd' c
            obtain ⟨Bs, hBs⟩ : ∃ B : ByteArray, ({ data := (wd' ++ [c]).toArray } : ByteArray) = B := ⟨_, rfl⟩
            rw [hBs] at happ
            have HSV : Hid (sV (wd' ++ [c]) = .string Bs) := by unfold Hid sV; rw [hBs]
            have hsz : ({ data := wd'.toArray } : ByteArray).size = wd'.length := rfl
            have hlim : (9223372036854775807 < wd'.length + 1) = False := eq_false (by omega)
            have hs1 : ({ data := #[c] } : ByteArray).size = 1 := rfl
            clear hBs
            have r0 := rowT_set ec_len tail (j := 0) (u := .string Bs) (wd' ++ [c], 1, q) hmg (by decide) (by rw [← HSV.out]; rfl)
            have hm1 : (L.set E'.length ((wd' ++ [c], 1, q) : Edg))[E'.length]? = some ((wd' ++ [c], 1, q) : Edg) := List.getElem?_set_self (by omega)
            have r2 := rowT_set ec_len tail (j := 2) (u := .bool (own == 1)) (wd' ++ [c], 1, (own == 1)) hm1 (by decide) rfl
            simp only [Nat.add_zero] at r0
            have hS0 := (hB.set_ (E'.length * 3) (.string Bs)).set_ (E'.length * 3 + 2) (.bool (own == 1))
            rw [r0, r2, List.set_set, HLS.out] at hS0
            have hS := (hS0.alloc (.cells #[.int .u8 c.toNat] 5)).drew
            have hOS := HBK.out _ _ (by simp; omega) hS
            have hbS := bl_drew (bl_alloc (bl_set (bl_set hbk3 hgw (.string Bs) (p := ⟨g, E'.length * 3, none⟩)) hgw (.bool (own == 1)) (p := ⟨g, E'.length * 3 + 2, none⟩)) (.cells #[.int .u8 c.toNat] 5))
            have HF : Hid (plF (l.take (k + 1)) = (E', wd' ++ [c], own)) := by unfold Hid; rw [HTT.out, HPY.out]
            have HR : Hid (refO (plF (l.take (k + 1))) = E' ++ [(wd' ++ [c], 1, (own == 1))]) := by unfold Hid; rw [HF.out, refO_put _ (by simp)]; rfl
            clear r0 r2 hm1 hmg hS hS0
            refine wp_region_ords [0, 1, 2, 3, 4, 5, 6, 7, 8, 9, 10, 11] [(12, false), (13, false), (14, false)] [15, 16, 17] (by kernel_rfl) (by kernel_rfl) (fun d _ _ _ _ h => by cases d <;> exact h) ?_
            simp only [List.map_cons, List.map_nil, List.getD_cons_zero, List.getD_cons_succ]
            repeat (go_big_quiet_step (fail))
            refine wpQuiet_nil ?_
            refine wpMid_run rfl (fun K hK => ?_)
            go_simp
            refine hK _ _ (by (repeat first|exact J0|assumption|(apply J1;assumption)|apply J2|apply J3|apply J4)) ?_
            clear hK K
            refine wpMid_run rfl (fun K hK => ?_)
            go_simp
            refine hK _ _ (by (repeat first|exact J0|assumption|(apply J1;assumption)|apply J2|apply J3|apply J4)) ?_
            clear hK K
            refine wpMid_run rfl (fun K hK => ?_)
            go_simp
            refine hK _ _ (by (repeat first|exact J0|assumption|(apply J1;assumption)|apply J2|apply J3|apply J4)) ?_
            clear hK K
            refine wpMid_nil ?_
            go_wp2
            go_roundw
            case rel => exact ⟨k + 1, by omega, by go_num, by rw [HF.out], by rw [HR.out]; exact hOS, hbS⟩
            case measure => simp [intOf]; omega
    · obtain rfl : k = l.length := by omega
      rw [HE.out] at hO
      go_wp2
      go_ret
      exact ⟨_, rfl, hO, hbk⟩
end Go.Proofs.YtkkefahobjlagaaGreatDoor
