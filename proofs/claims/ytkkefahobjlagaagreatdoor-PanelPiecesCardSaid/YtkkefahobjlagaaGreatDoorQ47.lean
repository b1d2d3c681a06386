/- Plain forms, walked. Conditions: letters. -/
import Derived.Test.YtkkefahobjlagaaGreatDoorQ22
import Derived.Test.YtkkefahobjlagaaGreatDoorQ46
import Derived.Test.YtkkefahobjlagaaGreatDoorQ25
import Derived.Test.YtkkefahobjlagaaGreatDoorQ17
import Derived.Test.YtkkefahobjlagaaGreatDoorQ23
import Derived.Test.YtkkefahobjlagaaGreatDoorQ38
namespace Go.Proofs.YtkkefahobjlagaaGreatDoor
open Go.RowKit Go.ChangeMaps
set_option maxHeartbeats 4000000
set_option maxRecDepth 100000
attribute [local go_sem] Oper.semAt_some
section
variable {ops : Array Oper} {rest : List Oper} {o : Oper} {a : Act} {Q : Exit → Act → World → Prop} {base : Nat} {W : World} {v : Value}
theorem wpList_appE1 {x : Edg} {l : List Edg} {cs : Array Value} (hown : Own ec 3 base 107 W v l) {g : Nat} (hgd : o.guard = none) (s y : Operand)
  (ho : o.op = .call { callee := .builtin .append, args := #[s, y], argTypes := #[28, 28] })
  (hs : a.eval s = v) (hx : a.eval y = .slice (some ⟨g, 0, none⟩) 1 1) (hg : W.heap.size = g) (hcs : cs = (ec x).toArray) (hlen : l.length ≤ 1000000) (hbase : base ≤ W.heap.size)
  (h : ∀ v' w', Own ec 3 base 107 w' v' (l ++ [x]) → (W.alloc (.cells cs 107)).grownBy w' v.ownBlock → wpList Tryz.prog ops Q rest (a.put o.dst v') w') :
  wpList Tryz.prog ops Q (o :: rest) a (W.alloc (.cells cs 107)) := by
 subst hg
 exact wpList_app hgd edge_elem ec_len ec_one s y ho base v _ l [x] hs hx (hown.alloc _) (Sl.oneG W _ x _ hcs) (by simp [maxLen]; omega) (by simp; omega) (by simp; omega) h
end
def FlP (B0 Bw Bo Bp base : Nat) (w : World) (s : PlS) (e : Ending) (w' : World) : Prop :=
 e = .returned (.tuple #[]) ∧ Blk w' Bw 9 #[sV s.2.1] ∧ (∃ u, Blk w' Bo 28 #[u] ∧ Own ec 3 base 107 w' u s.1) ∧ Blk w' Bp 3 #[.int .i64 s.2.2] ∧ Below B0 w w' ∧ ∀ g cs, Blk w g 127 cs → Blk w' g 127 cs
theorem Blk.ne_ {w : World} {g g' : Nat} {t t' : TypeId} {cs cs' : Array Value} (h : Blk w g t cs) (h' : Blk w g' t' cs') (ht : t ≠ t') : g ≠ g' := by
 rintro rfl
 unfold Blk at h h'
 rw [h] at h'
 exact ht (by injection (Option.some.inj h'))
theorem flush_any (B0 Bw Bo Bp base : Nat) (s : PlS) (u : Value) (w : World) (hW : Blk w Bw 9 #[sV s.2.1]) (hO : Blk w Bo 28 #[u]) (hu : Own ec 3 base 107 w u s.1) (hP : Blk w Bp 3 #[.int .i64 s.2.2])
  (hl : s.1.length ≤ 100000) (h1 : B0 ≤ Bw) (h2 : B0 ≤ Bo) (h3 : B0 ≤ Bp) (h4 : B0 ≤ base) (h5 : base ≤ w.heap.size) :
  Calls Tryz.prog 129 #[.pointer (some ⟨Bw, 0, none⟩), .pointer (some ⟨Bo, 0, none⟩), .pointer (some ⟨Bp, 0, none⟩)] w (FlP B0 Bw Bo Bp base w (flS s)) := by
 obtain ⟨o, wd, way⟩ := s
 simp only at hW hP hu hl
 obtain ⟨A, c, rfl⟩ := hu.shape
 have n1 : Bw ≠ Bo := by rintro rfl; unfold Blk at hW hO; rw [hW] at hO; simp at hO
 have n2 : Bw ≠ Bp := by rintro rfl; unfold Blk at hW hP; rw [hW] at hP; simp at hP
 have n3 : Bo ≠ Bp := by rintro rfl; unfold Blk at hO hP; rw [hO] at hP; simp at hP
 have fW := hW.facts
 have fO := hO.facts
 have fP := hP.facts
 by_cases hz : wd = []
 ·subst hz
  have HS : Hid (flS (o, [], way) = (o, [], 0)) := rfl
  rw [HS.out]
  clear HS
  have hWF := (hW.set_ 0 (sV []))
  have e0 : sV [] = .string { data := #[] } := rfl
  rw [e0] at fW
  go_enter Tryz.func129, Tryz.ntmps129
  go_wp2
  go_end0
  have k1 : Below B0 w (w.setCell ⟨Bw, 0, none⟩ (sV [])) := (Below.refl B0 w).setCell (p := ⟨Bw, 0, none⟩) h1 _
  exact ⟨rfl, hWF.far (p := ⟨Bp, 0, none⟩) n2 _, ⟨_, (hO.far (p := ⟨Bw, 0, none⟩) (Ne.symm n1) _).far (p := ⟨Bp, 0, none⟩) n3 _, (hu.set (p := ⟨Bw, 0, none⟩) (Ne.symm (hu.ne_blk hW (by decide))) _).set (p := ⟨Bp, 0, none⟩) (Ne.symm (hu.ne_blk hP (by decide))) _⟩,
   (hP.far (p := ⟨Bw, 0, none⟩) (Ne.symm n2) _).set_ 0 (.int .i64 0), k1.setCell (p := ⟨Bp, 0, none⟩) h3 _,
   fun g cs hg => (hg.far (p := ⟨Bw, 0, none⟩) (hg.ne_ hW (by decide)) _).far (p := ⟨Bp, 0, none⟩) (hg.ne_ hP (by decide)) _⟩
 ·have HS : Hid (flS (o, wd, way) = (o ++ [(wd, 1, decide (0 < way))], [], 0)) := by unfold Hid flS; simp only; rw [if_neg hz]
  rw [HS.out]
  clear HS
  obtain ⟨B, hB⟩ : ∃ B : ByteArray, ({ data := wd.toArray } : ByteArray) = B := ⟨_, rfl⟩
  have hBl : B.toList = wd := by rw [← hB]; simp [ByteArray.toList_eq]
  have g1 : (B.toList == []) = false := by rw [hBl]; cases wd <;> simp_all
  have g2 : B.toList.isEmpty = false := by rw [hBl]; cases wd <;> simp_all
  have g3 : (B.toList = []) = False := by rw [hBl]; simpa using hz
  unfold sV at hW fW
  have HB := Lib.hid hB
  rw [hB] at hW fW
  clear hB hBl hz
  go_enter Tryz.func129, Tryz.ntmps129
  go_wp2_with (at_builtin; refine wpList_appE1 (x := (wd, 1, decide (0 < way))) hu rfl _ _ rfl rfl rfl rfl (by rw [← HB.out]; rfl) (by omega) (by omega) ?_; intro v3 w3 hu3 hgr3; obtain ⟨A3, c3, rfl⟩ := hu3.shape; have hO3 := (hO.alloc (.cells #[.string B, .int .i64 1, .bool (decide (0 < way))] 107)).grown hgr3 (hu.ne_blk hO (by decide)); have hW3 := (hW.alloc (.cells #[.string B, .int .i64 1, .bool (decide (0 < way))] 107)).grown hgr3 (hu.ne_blk hW (by decide)); have hP3 := (hP.alloc (.cells #[.string B, .int .i64 1, .bool (decide (0 < way))] 107)).grown hgr3 (hu.ne_blk hP (by decide)); have f3 := hO3.facts; have f4 := hW3.facts; have f5 := hP3.facts)
  go_end0
  simp only [List.length_append, List.length_cons, List.length_nil, Nat.zero_add] at hu3
  have k0 : Below B0 w w3 := ((Below.refl B0 w).alloc (Nat.le_trans h4 h5) _).grown hgr3 (by simp; omega) (fun k e => Nat.le_trans h4 (hu.lt k e).1)
  exact ⟨rfl, ((hW3.far (p := ⟨Bo, 0, none⟩) n1 _).set_ 0 (sV [])).far (p := ⟨Bp, 0, none⟩) n2 _,
   ⟨_, ((hO3.set_ 0 _).far (p := ⟨Bw, 0, none⟩) (Ne.symm n1) _).far (p := ⟨Bp, 0, none⟩) n3 _,
    ((hu3.set (p := ⟨Bo, 0, none⟩) (Ne.symm (hu3.ne_blk hO3 (by decide))) _).set (p := ⟨Bw, 0, none⟩) (Ne.symm (hu3.ne_blk hW3 (by decide))) _).set (p := ⟨Bp, 0, none⟩) (Ne.symm (hu3.ne_blk hP3 (by decide))) _⟩,
   ((hP3.far (p := ⟨Bo, 0, none⟩) (Ne.symm n3) _).far (p := ⟨Bw, 0, none⟩) (Ne.symm n2) _).set_ 0 (.int .i64 0),
   ((k0.setCell (p := ⟨Bo, 0, none⟩) h2 _).setCell (p := ⟨Bw, 0, none⟩) h1 _).setCell (p := ⟨Bp, 0, none⟩) h3 _,
   fun g cs hg => ((((hg.alloc _).grown hgr3 (hu.ne_blk hg (by decide))).far (p := ⟨Bo, 0, none⟩) (hg.ne_ hO (by decide)) _).far (p := ⟨Bw, 0, none⟩) (hg.ne_ hW (by decide)) _).far (p := ⟨Bp, 0, none⟩) (hg.ne_ hP (by decide)) _⟩
def ltr (c : UInt8) : Prop := c = 78 ∨ c = 66 ∨ c = 84
theorem conv_ltr (c : UInt8) (h : ltr c) (w : World) : (convert 5 9 (.int .u8 c.toNat)).run Tryz.prog w = .ok (.string ⟨#[c]⟩) w := by
 rcases h with rfl | rfl | rfl <;> kernel_rfl
theorem enc_ltr (c : UInt8) (h : ltr c) : Utf8.encode (c.toNat : Int) = ⟨#[c]⟩ := by
 rcases h with rfl | rfl | rfl <;> kernel_rfl
theorem app_str (wd : List UInt8) (c : UInt8) : (({ data := wd.toArray } : ByteArray) ++ { data := #[c] }) = { data := (wd ++ [c]).toArray } := by
 apply ByteArray.ext
 simp [ByteArray.data_append]
theorem plS_len (s : PlS) (x : Stp) : (plS s x).1.length ≤ s.1.length + 1 := by
 unfold plS putS flS
 simp only
 split
 ·split
  ·simp
  ·simp
 ·simp
theorem plF_len : ∀ l : List Stp, (plF l).1.length ≤ l.length := by
 have : ∀ (l : List Stp) (s : PlS), (l.foldl plS s).1.length ≤ s.1.length + l.length := by
  intro l
  induction l with
  | nil => intro s; simp
  | cons x r ih =>
   intro s
   have h1 := ih (plS s x)
   have h2 := plS_len s x
   simp only [List.foldl_cons, List.length_cons]
   omega
 intro l
 have := this l ([], [], 0)
 simpa [plF] using this
theorem plS_cut {s : PlS} {x : Stp} {y : Int} (hy : (if ownW x ≠ 0 then ownW x else 0) = y) (h : cutS s x = true) : plS s x = ((flS s).1, [x.1], y) := by
 unfold plS
 rw [if_pos h]
 unfold putS
 rw [← hy]
 rfl
theorem plS_keep {s : PlS} {x : Stp} {y : Int} (hy : (if ownW x ≠ 0 then ownW x else s.2.2) = y) (h : cutS s x = false) : plS s x = (s.1, s.2.1 ++ [x.1], y) := by
 unfold plS
 rw [if_neg (by simp [h])]
 unfold putS
 rw [← hy]
theorem plain_any (l : List Stp) (A : Option Addr) (cc : Nat) (w : World) (hr : Rd sc 2 w A l) (hl : l.length ≤ 1000) (hc : ∀ x ∈ l, ltr x.1) :
  Calls Tryz.prog 69 #[.slice A l.length cc] w (RG ec 3 107 w (plnL l)) := by
 have HLL := Lib.hid hc
 clear hc
 have hO := Blk.new w 28 #[.slice none 0 0]
 have hW := Blk.new1 w (.cells #[.slice none 0 0] 28) 9 #[sV []]
 have hP := Blk.new2 w (.cells #[.slice none 0 0] 28) (.cells #[sV []] 9) 3 #[.int .i64 0]
 replace hO := (hO.alloc (.cells #[sV []] 9)).alloc (.cells #[.int .i64 0] 3)
 replace hW := hW.alloc (.cells #[.int .i64 0] 3)
 have e0 : sV [] = .string { data := #[] } := rfl
 rw [e0] at hO hW hP
 go_enter Tryz.func69, Tryz.ntmps69
 go_upto_region 4 with fail
 obtain ⟨w1, hw1⟩ : ∃ X, ((w.alloc (.cells #[.slice none 0 0] 28)).alloc (.cells #[.string { data := #[] }] 9)).alloc (.cells #[.int .i64 0] 3) = X := ⟨_, rfl⟩
 have hb1 : Below w.heap.size w w1 := by rw [← hw1]; exact bl_alloc (bl_alloc (bl_alloc bl_refl _) _) _
 rw [hw1] at hO hW hP ⊢
 clear hw1
 go_wp2
 go_loopw [13] (fun s13 wr => ∃ k : Nat, k ≤ l.length ∧ s13 = .int .i64 k ∧ Blk wr (w.heap.size + 1) 9 #[sV (plF (l.take k)).2.1] ∧ (∃ u, Blk wr w.heap.size 28 #[u] ∧ Own ec 3 w.heap.size 107 wr u (plF (l.take k)).1) ∧ Blk wr (w.heap.size + 1 + 1) 3 #[.int .i64 (plF (l.take k)).2.2] ∧ Below w.heap.size w wr) (fun s _ => l.length - (intOf s).toNat)
 case atStart => exact ⟨0, Nat.zero_le _, rfl, hW, ⟨_, hO, Own.nil_⟩, hP, hb1⟩
 case round =>
  clear hO hW hP
  obtain ⟨k, hk, rfl, hW, ⟨u, hO, hu⟩, hP, hbk⟩ := hrel
  obtain ⟨wo, rfl⟩ : ∃ x, x = wr := ⟨_, rfl⟩
  have hok := plF_ok (l.take k)
  have hel := plF_len (l.take k)
  by_cases hlt : k < l.length
  ·have HT : Hid (plF (l.take (k + 1)) = plS (plF (l.take k)) l[k]) := by unfold Hid; rw [List.take_succ_eq_append_getElem hlt, plF_snoc]
   have hlc := HLL.out _ (List.getElem_mem hlt)
   obtain ⟨b, off, rfl, hb, e0, e1⟩ := (hr.below hbk).stp hlt
   obtain ⟨⟨c, o⟩, hx⟩ : ∃ z, l[k] = z := ⟨_, rfl⟩
   rw [hx] at e0 e1 hlc HT
   simp only at e0 e1 hlc
   clear hx
   have hS : (plF (l.take k)).1.length ≤ 1000 := by have := List.length_take_le k l; omega
   obtain ⟨⟨es, wd, way⟩, hs⟩ : ∃ z, plF (l.take k) = z := ⟨_, rfl⟩
   rw [hs] at hW hu hP hok HT hS
   obtain ⟨hway, hlen⟩ := hok
   simp only at hW hu hP hway hlen hS
   clear hs hel
   have hgz : w.heap.size + 1 + 1 < wo.heap.size := hP.lt
   have hX := Blk.new wo 127 #[.int .u8 c.toNat, .bool o]
   replace hW := hW.alloc (.cells #[.int .u8 c.toNat, .bool o] 127)
   replace hO := hO.alloc (.cells #[.int .u8 c.toNat, .bool o] 127)
   replace hP := hP.alloc (.cells #[.int .u8 c.toNat, .bool o] 127)
   replace hu := hu.alloc (.cells #[.int .u8 c.toNat, .bool o] 127)
   have hbx := bl_alloc hbk (.cells #[.int .u8 c.toNat, .bool o] 127)
   have fX := hX.facts
   go_upto_region 7 with fail
   obtain ⟨wx, hwx⟩ : ∃ X, wo.alloc (.cells #[.int .u8 c.toNat, .bool o] 127) = X := ⟨_, rfl⟩
   have hcv := conv_ltr c hlc
   obtain ⟨gx, hgx⟩ : ∃ X, wo.heap.size = X := ⟨_, rfl⟩
   rw [hwx] at hW hO hP hu hbx
   rw [hgx] at hgz
   rw [hwx, hgx] at hX
   rw [hwx, hgx]
   clear hwx hgx fX e0 e1 hb hbk
   have hcv := enc_ltr c hlc
   have hsz : ({ data := wd.toArray } : ByteArray).size = wd.length := rfl
   have hfl := flush_any w.heap.size (w.heap.size + 1) w.heap.size (w.heap.size + 1 + 1) w.heap.size (es, wd, way) u wx hW hO hu hP (by simp only; omega) (by omega) (Nat.le_refl _) (by omega) (Nat.le_refl _) hbx.size
   have HW0 := Lib.hid hW
   unfold sV at hW
   have HAP := Lib.hid (app_str wd c)
   have HAE : Hid (({ data := #[] } : ByteArray) ++ { data := #[c] } = { data := [c].toArray }) := app_str [] c
   have fX := hX.facts
   have fW := hW.facts
   have fO := hO.facts
   have fP := hP.facts
   have nWX : w.heap.size + 1 ≠ w.heap.size + 1 + 1 := by omega
   clear hlc hgz
   by_cases hO1 : c = 78
   ·have t1 : ((c.toNat : Int) != 78) = false := by rw [hO1]; rfl
    have HO : Hid (ownW (c, o) = 0) := by unfold Hid ownW; rw [if_pos hO1]
    clear hO1
    rcases hway with rfl | rfl | rfl
    ·by_cases h64 : wd.length = 64
     ·have q1 : ((wd.length : Int) == 64) = true := by rw [h64]; rfl
      have HS : Hid (plS (es, wd, (0 : Int)) (c, o) = ((flS (es, wd, 0)).1, [c], (0 : Int))) := by unfold Hid; exact plS_cut (by rw [HO.out]; rfl) (by unfold cutS; rw [HO.out, decide_eq_true h64]; rfl)
      clear h64
      go_wp2_with fail
      refine hfl.mono ?_
      rintro e w9 ⟨rfl, hW9, ⟨u9, hO9, hu9⟩, hP9, hb9, hk9⟩
      have hX9 := hk9 _ _ hX
      unfold sV flS at hW9
      have fX9 := hX9.facts
      have fW9 := hW9.facts
      have fP9 := hP9.facts
      go_wp2
      go_roundw
      case rel => exact ⟨k + 1, by omega, by go_num, by rw [HT.out, HS.out]; unfold sV; rw [← HAE.out]; exact hW9.set_ 0 _, ⟨u9, by exact hO9.far (p := ⟨w.heap.size + 1, 0, none⟩) (by simp) _, by rw [HT.out, HS.out]; exact hu9.set (p := ⟨w.heap.size + 1, 0, none⟩) (Ne.symm (hu9.ne_blk hW9 (by decide))) _⟩, by rw [HT.out, HS.out]; exact hP9.far (p := ⟨w.heap.size + 1, 0, none⟩) (by simp) _, (hbx.trans hb9).setCell (p := ⟨w.heap.size + 1, 0, none⟩) (by simp) _⟩
      case measure => simp [intOf]; omega
     ·have q1 : ((wd.length : Int) == 64) = false := beq_false_of_ne (by omega)
      have HS : Hid (plS (es, wd, (0 : Int)) (c, o) = (es, wd ++ [c], (0 : Int))) := by unfold Hid; exact plS_keep (by rw [HO.out]; rfl) (by unfold cutS; rw [HO.out, decide_eq_false h64]; rfl)
      clear h64
      go_wp2
      go_roundw
      case rel => exact ⟨k + 1, by omega, by go_num, by rw [HT.out, HS.out]; unfold sV; rw [← HAP.out]; exact hW.set_ 0 _, ⟨u, by exact hO.far (p := ⟨w.heap.size + 1, 0, none⟩) (by simp) _, by rw [HT.out, HS.out]; exact hu.set (p := ⟨w.heap.size + 1, 0, none⟩) (Ne.symm (hu.ne_blk hW (by decide))) _⟩, by rw [HT.out, HS.out]; exact hP.far (p := ⟨w.heap.size + 1, 0, none⟩) (by simp) _, hbx.setCell (p := ⟨w.heap.size + 1, 0, none⟩) (by simp) _⟩
      case measure => simp [intOf]; omega
    ·by_cases h64 : wd.length = 64
     ·have q1 : ((wd.length : Int) == 64) = true := by rw [h64]; rfl
      have HS : Hid (plS (es, wd, (1 : Int)) (c, o) = ((flS (es, wd, 1)).1, [c], (0 : Int))) := by unfold Hid; exact plS_cut (by rw [HO.out]; rfl) (by unfold cutS; rw [HO.out, decide_eq_true h64]; rfl)
      clear h64
      go_wp2_with fail
      refine hfl.mono ?_
      rintro e w9 ⟨rfl, hW9, ⟨u9, hO9, hu9⟩, hP9, hb9, hk9⟩
      have hX9 := hk9 _ _ hX
      unfold sV flS at hW9
      have fX9 := hX9.facts
      have fW9 := hW9.facts
      have fP9 := hP9.facts
      go_wp2
      go_roundw
      case rel => exact ⟨k + 1, by omega, by go_num, by rw [HT.out, HS.out]; unfold sV; rw [← HAE.out]; exact hW9.set_ 0 _, ⟨u9, by exact hO9.far (p := ⟨w.heap.size + 1, 0, none⟩) (by simp) _, by rw [HT.out, HS.out]; exact hu9.set (p := ⟨w.heap.size + 1, 0, none⟩) (Ne.symm (hu9.ne_blk hW9 (by decide))) _⟩, by rw [HT.out, HS.out]; exact hP9.far (p := ⟨w.heap.size + 1, 0, none⟩) (by simp) _, (hbx.trans hb9).setCell (p := ⟨w.heap.size + 1, 0, none⟩) (by simp) _⟩
      case measure => simp [intOf]; omega
     ·have q1 : ((wd.length : Int) == 64) = false := beq_false_of_ne (by omega)
      have HS : Hid (plS (es, wd, (1 : Int)) (c, o) = (es, wd ++ [c], (1 : Int))) := by unfold Hid; exact plS_keep (by rw [HO.out]; rfl) (by unfold cutS; rw [HO.out, decide_eq_false h64]; rfl)
      clear h64
      go_wp2
      go_roundw
      case rel => exact ⟨k + 1, by omega, by go_num, by rw [HT.out, HS.out]; unfold sV; rw [← HAP.out]; exact hW.set_ 0 _, ⟨u, by exact hO.far (p := ⟨w.heap.size + 1, 0, none⟩) (by simp) _, by rw [HT.out, HS.out]; exact hu.set (p := ⟨w.heap.size + 1, 0, none⟩) (Ne.symm (hu.ne_blk hW (by decide))) _⟩, by rw [HT.out, HS.out]; exact hP.far (p := ⟨w.heap.size + 1, 0, none⟩) (by simp) _, hbx.setCell (p := ⟨w.heap.size + 1, 0, none⟩) (by simp) _⟩
      case measure => simp [intOf]; omega
    ·by_cases h64 : wd.length = 64
     ·have q1 : ((wd.length : Int) == 64) = true := by rw [h64]; rfl
      have HS : Hid (plS (es, wd, (-1 : Int)) (c, o) = ((flS (es, wd, -1)).1, [c], (0 : Int))) := by unfold Hid; exact plS_cut (by rw [HO.out]; rfl) (by unfold cutS; rw [HO.out, decide_eq_true h64]; rfl)
      clear h64
      go_wp2_with fail
      refine hfl.mono ?_
      rintro e w9 ⟨rfl, hW9, ⟨u9, hO9, hu9⟩, hP9, hb9, hk9⟩
      have hX9 := hk9 _ _ hX
      unfold sV flS at hW9
      have fX9 := hX9.facts
      have fW9 := hW9.facts
      have fP9 := hP9.facts
      go_wp2
      go_roundw
      case rel => exact ⟨k + 1, by omega, by go_num, by rw [HT.out, HS.out]; unfold sV; rw [← HAE.out]; exact hW9.set_ 0 _, ⟨u9, by exact hO9.far (p := ⟨w.heap.size + 1, 0, none⟩) (by simp) _, by rw [HT.out, HS.out]; exact hu9.set (p := ⟨w.heap.size + 1, 0, none⟩) (Ne.symm (hu9.ne_blk hW9 (by decide))) _⟩, by rw [HT.out, HS.out]; exact hP9.far (p := ⟨w.heap.size + 1, 0, none⟩) (by simp) _, (hbx.trans hb9).setCell (p := ⟨w.heap.size + 1, 0, none⟩) (by simp) _⟩
      case measure => simp [intOf]; omega
     ·have q1 : ((wd.length : Int) == 64) = false := beq_false_of_ne (by omega)
      have HS : Hid (plS (es, wd, (-1 : Int)) (c, o) = (es, wd ++ [c], (-1 : Int))) := by unfold Hid; exact plS_keep (by rw [HO.out]; rfl) (by unfold cutS; rw [HO.out, decide_eq_false h64]; rfl)
      clear h64
      go_wp2
      go_roundw
      case rel => exact ⟨k + 1, by omega, by go_num, by rw [HT.out, HS.out]; unfold sV; rw [← HAP.out]; exact hW.set_ 0 _, ⟨u, by exact hO.far (p := ⟨w.heap.size + 1, 0, none⟩) (by simp) _, by rw [HT.out, HS.out]; exact hu.set (p := ⟨w.heap.size + 1, 0, none⟩) (Ne.symm (hu.ne_blk hW (by decide))) _⟩, by rw [HT.out, HS.out]; exact hP.far (p := ⟨w.heap.size + 1, 0, none⟩) (by simp) _, hbx.setCell (p := ⟨w.heap.size + 1, 0, none⟩) (by simp) _⟩
      case measure => simp [intOf]; omega
   ·have t1 : ((c.toNat : Int) != 78) = true := by rw [bne_iff_ne]; intro h; exact hO1 (by rw [← UInt8.toNat_inj]; exact_mod_cast h)
    by_cases hO2 : o = true
    ·subst hO2
     have HO : Hid (ownW (c, true) = 1) := by unfold Hid ownW; rw [if_neg hO1]; rfl
     clear hO1
     rcases hway with rfl | rfl | rfl
     ·by_cases h64 : wd.length = 64
      ·have q1 : ((wd.length : Int) == 64) = true := by rw [h64]; rfl
       have HS : Hid (plS (es, wd, (0 : Int)) (c, true) = ((flS (es, wd, 0)).1, [c], (1 : Int))) := by unfold Hid; exact plS_cut (by rw [HO.out]; rfl) (by unfold cutS; rw [HO.out, decide_eq_true h64]; rfl)
       clear h64
       go_wp2_with fail
       refine hfl.mono ?_
       rintro e w9 ⟨rfl, hW9, ⟨u9, hO9, hu9⟩, hP9, hb9, hk9⟩
       have hX9 := hk9 _ _ hX
       unfold sV flS at hW9
       have fX9 := hX9.facts
       have fW9 := hW9.facts
       have fP9 := hP9.facts
       go_wp2
       go_roundw
       case rel => exact ⟨k + 1, by omega, by go_num, by rw [HT.out, HS.out]; unfold sV; rw [← HAE.out]; exact (hW9.set_ 0 _).far (p := ⟨w.heap.size + 1 + 1, 0, none⟩) (by simp) _, ⟨u9, by exact (hO9.far (p := ⟨w.heap.size + 1, 0, none⟩) (by simp) _).far (p := ⟨w.heap.size + 1 + 1, 0, none⟩) (by show w.heap.size ≠ w.heap.size + 1 + 1; omega) _, by rw [HT.out, HS.out]; exact (hu9.set (p := ⟨w.heap.size + 1, 0, none⟩) (Ne.symm (hu9.ne_blk hW9 (by decide))) _).set (p := ⟨w.heap.size + 1 + 1, 0, none⟩) (Ne.symm (hu9.ne_blk hP9 (by decide))) _⟩, by rw [HT.out, HS.out]; exact (hP9.far (p := ⟨w.heap.size + 1, 0, none⟩) (by simp) _).set_ 0 _, ((hbx.trans hb9).setCell (p := ⟨w.heap.size + 1, 0, none⟩) (by simp) _).setCell (p := ⟨w.heap.size + 1 + 1, 0, none⟩) (by simp; omega) _⟩
       case measure => simp [intOf]; omega
      ·have q1 : ((wd.length : Int) == 64) = false := beq_false_of_ne (by omega)
       have HS : Hid (plS (es, wd, (0 : Int)) (c, true) = (es, wd ++ [c], (1 : Int))) := by unfold Hid; exact plS_keep (by rw [HO.out]; rfl) (by unfold cutS; rw [HO.out, decide_eq_false h64]; rfl)
       clear h64
       go_wp2
       go_roundw
       case rel => exact ⟨k + 1, by omega, by go_num, by rw [HT.out, HS.out]; unfold sV; rw [← HAP.out]; exact (hW.set_ 0 _).far (p := ⟨w.heap.size + 1 + 1, 0, none⟩) (by simp) _, ⟨u, by exact (hO.far (p := ⟨w.heap.size + 1, 0, none⟩) (by simp) _).far (p := ⟨w.heap.size + 1 + 1, 0, none⟩) (by show w.heap.size ≠ w.heap.size + 1 + 1; omega) _, by rw [HT.out, HS.out]; exact (hu.set (p := ⟨w.heap.size + 1, 0, none⟩) (Ne.symm (hu.ne_blk hW (by decide))) _).set (p := ⟨w.heap.size + 1 + 1, 0, none⟩) (Ne.symm (hu.ne_blk hP (by decide))) _⟩, by rw [HT.out, HS.out]; exact (hP.far (p := ⟨w.heap.size + 1, 0, none⟩) (by simp) _).set_ 0 _, (hbx.setCell (p := ⟨w.heap.size + 1, 0, none⟩) (by simp) _).setCell (p := ⟨w.heap.size + 1 + 1, 0, none⟩) (by simp; omega) _⟩
       case measure => simp [intOf]; omega
     ·by_cases h64 : wd.length = 64
      ·have q1 : ((wd.length : Int) == 64) = true := by rw [h64]; rfl
       have HS : Hid (plS (es, wd, (1 : Int)) (c, true) = ((flS (es, wd, 1)).1, [c], (1 : Int))) := by unfold Hid; exact plS_cut (by rw [HO.out]; rfl) (by unfold cutS; rw [HO.out, decide_eq_true h64]; rfl)
       clear h64
       go_wp2_with fail
       refine hfl.mono ?_
       rintro e w9 ⟨rfl, hW9, ⟨u9, hO9, hu9⟩, hP9, hb9, hk9⟩
       have hX9 := hk9 _ _ hX
       unfold sV flS at hW9
       have fX9 := hX9.facts
       have fW9 := hW9.facts
       have fP9 := hP9.facts
       go_wp2
       go_roundw
       case rel => exact ⟨k + 1, by omega, by go_num, by rw [HT.out, HS.out]; unfold sV; rw [← HAE.out]; exact (hW9.set_ 0 _).far (p := ⟨w.heap.size + 1 + 1, 0, none⟩) (by simp) _, ⟨u9, by exact (hO9.far (p := ⟨w.heap.size + 1, 0, none⟩) (by simp) _).far (p := ⟨w.heap.size + 1 + 1, 0, none⟩) (by show w.heap.size ≠ w.heap.size + 1 + 1; omega) _, by rw [HT.out, HS.out]; exact (hu9.set (p := ⟨w.heap.size + 1, 0, none⟩) (Ne.symm (hu9.ne_blk hW9 (by decide))) _).set (p := ⟨w.heap.size + 1 + 1, 0, none⟩) (Ne.symm (hu9.ne_blk hP9 (by decide))) _⟩, by rw [HT.out, HS.out]; exact (hP9.far (p := ⟨w.heap.size + 1, 0, none⟩) (by simp) _).set_ 0 _, ((hbx.trans hb9).setCell (p := ⟨w.heap.size + 1, 0, none⟩) (by simp) _).setCell (p := ⟨w.heap.size + 1 + 1, 0, none⟩) (by simp; omega) _⟩
       case measure => simp [intOf]; omega
      ·have q1 : ((wd.length : Int) == 64) = false := beq_false_of_ne (by omega)
       have HS : Hid (plS (es, wd, (1 : Int)) (c, true) = (es, wd ++ [c], (1 : Int))) := by unfold Hid; exact plS_keep (by rw [HO.out]; rfl) (by unfold cutS; rw [HO.out, decide_eq_false h64]; rfl)
       clear h64
       go_wp2
       go_roundw
       case rel => exact ⟨k + 1, by omega, by go_num, by rw [HT.out, HS.out]; unfold sV; rw [← HAP.out]; exact (hW.set_ 0 _).far (p := ⟨w.heap.size + 1 + 1, 0, none⟩) (by simp) _, ⟨u, by exact (hO.far (p := ⟨w.heap.size + 1, 0, none⟩) (by simp) _).far (p := ⟨w.heap.size + 1 + 1, 0, none⟩) (by show w.heap.size ≠ w.heap.size + 1 + 1; omega) _, by rw [HT.out, HS.out]; exact (hu.set (p := ⟨w.heap.size + 1, 0, none⟩) (Ne.symm (hu.ne_blk hW (by decide))) _).set (p := ⟨w.heap.size + 1 + 1, 0, none⟩) (Ne.symm (hu.ne_blk hP (by decide))) _⟩, by rw [HT.out, HS.out]; exact (hP.far (p := ⟨w.heap.size + 1, 0, none⟩) (by simp) _).set_ 0 _, (hbx.setCell (p := ⟨w.heap.size + 1, 0, none⟩) (by simp) _).setCell (p := ⟨w.heap.size + 1 + 1, 0, none⟩) (by simp; omega) _⟩
       case measure => simp [intOf]; omega
     ·by_cases h64 : wd.length = 64
      ·have q1 : ((wd.length : Int) == 64) = true := by rw [h64]; rfl
       have HS : Hid (plS (es, wd, (-1 : Int)) (c, true) = ((flS (es, wd, -1)).1, [c], (1 : Int))) := by unfold Hid; exact plS_cut (by rw [HO.out]; rfl) (by unfold cutS; rw [HO.out, decide_eq_true h64]; rfl)
       clear h64
       go_wp2_with fail
       refine hfl.mono ?_
       rintro e w9 ⟨rfl, hW9, ⟨u9, hO9, hu9⟩, hP9, hb9, hk9⟩
       have hX9 := hk9 _ _ hX
       unfold sV flS at hW9
       have fX9 := hX9.facts
       have fW9 := hW9.facts
       have fP9 := hP9.facts
       go_wp2
       go_roundw
       case rel => exact ⟨k + 1, by omega, by go_num, by rw [HT.out, HS.out]; unfold sV; rw [← HAE.out]; exact (hW9.set_ 0 _).far (p := ⟨w.heap.size + 1 + 1, 0, none⟩) (by simp) _, ⟨u9, by exact (hO9.far (p := ⟨w.heap.size + 1, 0, none⟩) (by simp) _).far (p := ⟨w.heap.size + 1 + 1, 0, none⟩) (by show w.heap.size ≠ w.heap.size + 1 + 1; omega) _, by rw [HT.out, HS.out]; exact (hu9.set (p := ⟨w.heap.size + 1, 0, none⟩) (Ne.symm (hu9.ne_blk hW9 (by decide))) _).set (p := ⟨w.heap.size + 1 + 1, 0, none⟩) (Ne.symm (hu9.ne_blk hP9 (by decide))) _⟩, by rw [HT.out, HS.out]; exact (hP9.far (p := ⟨w.heap.size + 1, 0, none⟩) (by simp) _).set_ 0 _, ((hbx.trans hb9).setCell (p := ⟨w.heap.size + 1, 0, none⟩) (by simp) _).setCell (p := ⟨w.heap.size + 1 + 1, 0, none⟩) (by simp; omega) _⟩
       case measure => simp [intOf]; omega
      ·have q1 : ((wd.length : Int) == 64) = false := beq_false_of_ne (by omega)
       have HS : Hid (plS (es, wd, (-1 : Int)) (c, true) = ((flS (es, wd, -1)).1, [c], (1 : Int))) := by unfold Hid; exact plS_cut (by rw [HO.out]; rfl) (by unfold cutS; rw [HO.out, decide_eq_false h64]; rfl)
       clear h64
       go_wp2_with fail
       refine hfl.mono ?_
       rintro e w9 ⟨rfl, hW9, ⟨u9, hO9, hu9⟩, hP9, hb9, hk9⟩
       have hX9 := hk9 _ _ hX
       unfold sV flS at hW9
       have fX9 := hX9.facts
       have fW9 := hW9.facts
       have fP9 := hP9.facts
       go_wp2
       go_roundw
       case rel => exact ⟨k + 1, by omega, by go_num, by rw [HT.out, HS.out]; unfold sV; rw [← HAE.out]; exact (hW9.set_ 0 _).far (p := ⟨w.heap.size + 1 + 1, 0, none⟩) (by simp) _, ⟨u9, by exact (hO9.far (p := ⟨w.heap.size + 1, 0, none⟩) (by simp) _).far (p := ⟨w.heap.size + 1 + 1, 0, none⟩) (by show w.heap.size ≠ w.heap.size + 1 + 1; omega) _, by rw [HT.out, HS.out]; exact (hu9.set (p := ⟨w.heap.size + 1, 0, none⟩) (Ne.symm (hu9.ne_blk hW9 (by decide))) _).set (p := ⟨w.heap.size + 1 + 1, 0, none⟩) (Ne.symm (hu9.ne_blk hP9 (by decide))) _⟩, by rw [HT.out, HS.out]; exact (hP9.far (p := ⟨w.heap.size + 1, 0, none⟩) (by simp) _).set_ 0 _, ((hbx.trans hb9).setCell (p := ⟨w.heap.size + 1, 0, none⟩) (by simp) _).setCell (p := ⟨w.heap.size + 1 + 1, 0, none⟩) (by simp; omega) _⟩
       case measure => simp [intOf]; omega
    ·obtain rfl : o = false := by simpa using hO2
     have HO : Hid (ownW (c, false) = -1) := by unfold Hid ownW; rw [if_neg hO1]; rfl
     clear hO1 hO2
     rcases hway with rfl | rfl | rfl
     ·by_cases h64 : wd.length = 64
      ·have q1 : ((wd.length : Int) == 64) = true := by rw [h64]; rfl
       have HS : Hid (plS (es, wd, (0 : Int)) (c, false) = ((flS (es, wd, 0)).1, [c], (-1 : Int))) := by unfold Hid; exact plS_cut (by rw [HO.out]; rfl) (by unfold cutS; rw [HO.out, decide_eq_true h64]; rfl)
       clear h64
       go_wp2_with fail
       refine hfl.mono ?_
       rintro e w9 ⟨rfl, hW9, ⟨u9, hO9, hu9⟩, hP9, hb9, hk9⟩
       have hX9 := hk9 _ _ hX
       unfold sV flS at hW9
       have fX9 := hX9.facts
       have fW9 := hW9.facts
       have fP9 := hP9.facts
       go_wp2
       go_roundw
       case rel => exact ⟨k + 1, by omega, by go_num, by rw [HT.out, HS.out]; unfold sV; rw [← HAE.out]; exact (hW9.set_ 0 _).far (p := ⟨w.heap.size + 1 + 1, 0, none⟩) (by simp) _, ⟨u9, by exact (hO9.far (p := ⟨w.heap.size + 1, 0, none⟩) (by simp) _).far (p := ⟨w.heap.size + 1 + 1, 0, none⟩) (by show w.heap.size ≠ w.heap.size + 1 + 1; omega) _, by rw [HT.out, HS.out]; exact (hu9.set (p := ⟨w.heap.size + 1, 0, none⟩) (Ne.symm (hu9.ne_blk hW9 (by decide))) _).set (p := ⟨w.heap.size + 1 + 1, 0, none⟩) (Ne.symm (hu9.ne_blk hP9 (by decide))) _⟩, by rw [HT.out, HS.out]; exact (hP9.far (p := ⟨w.heap.size + 1, 0, none⟩) (by simp) _).set_ 0 _, ((hbx.trans hb9).setCell (p := ⟨w.heap.size + 1, 0, none⟩) (by simp) _).setCell (p := ⟨w.heap.size + 1 + 1, 0, none⟩) (by simp; omega) _⟩
       case measure => simp [intOf]; omega
      ·have q1 : ((wd.length : Int) == 64) = false := beq_false_of_ne (by omega)
       have HS : Hid (plS (es, wd, (0 : Int)) (c, false) = (es, wd ++ [c], (-1 : Int))) := by unfold Hid; exact plS_keep (by rw [HO.out]; rfl) (by unfold cutS; rw [HO.out, decide_eq_false h64]; rfl)
       clear h64
       go_wp2
       go_roundw
       case rel => exact ⟨k + 1, by omega, by go_num, by rw [HT.out, HS.out]; unfold sV; rw [← HAP.out]; exact (hW.set_ 0 _).far (p := ⟨w.heap.size + 1 + 1, 0, none⟩) (by simp) _, ⟨u, by exact (hO.far (p := ⟨w.heap.size + 1, 0, none⟩) (by simp) _).far (p := ⟨w.heap.size + 1 + 1, 0, none⟩) (by show w.heap.size ≠ w.heap.size + 1 + 1; omega) _, by rw [HT.out, HS.out]; exact (hu.set (p := ⟨w.heap.size + 1, 0, none⟩) (Ne.symm (hu.ne_blk hW (by decide))) _).set (p := ⟨w.heap.size + 1 + 1, 0, none⟩) (Ne.symm (hu.ne_blk hP (by decide))) _⟩, by rw [HT.out, HS.out]; exact (hP.far (p := ⟨w.heap.size + 1, 0, none⟩) (by simp) _).set_ 0 _, (hbx.setCell (p := ⟨w.heap.size + 1, 0, none⟩) (by simp) _).setCell (p := ⟨w.heap.size + 1 + 1, 0, none⟩) (by simp; omega) _⟩
       case measure => simp [intOf]; omega
     ·by_cases h64 : wd.length = 64
      ·have q1 : ((wd.length : Int) == 64) = true := by rw [h64]; rfl
       have HS : Hid (plS (es, wd, (1 : Int)) (c, false) = ((flS (es, wd, 1)).1, [c], (-1 : Int))) := by unfold Hid; exact plS_cut (by rw [HO.out]; rfl) (by unfold cutS; rw [HO.out, decide_eq_true h64]; rfl)
       clear h64
       go_wp2_with fail
       refine hfl.mono ?_
       rintro e w9 ⟨rfl, hW9, ⟨u9, hO9, hu9⟩, hP9, hb9, hk9⟩
       have hX9 := hk9 _ _ hX
       unfold sV flS at hW9
       have fX9 := hX9.facts
       have fW9 := hW9.facts
       have fP9 := hP9.facts
       go_wp2
       go_roundw
       case rel => exact ⟨k + 1, by omega, by go_num, by rw [HT.out, HS.out]; unfold sV; rw [← HAE.out]; exact (hW9.set_ 0 _).far (p := ⟨w.heap.size + 1 + 1, 0, none⟩) (by simp) _, ⟨u9, by exact (hO9.far (p := ⟨w.heap.size + 1, 0, none⟩) (by simp) _).far (p := ⟨w.heap.size + 1 + 1, 0, none⟩) (by show w.heap.size ≠ w.heap.size + 1 + 1; omega) _, by rw [HT.out, HS.out]; exact (hu9.set (p := ⟨w.heap.size + 1, 0, none⟩) (Ne.symm (hu9.ne_blk hW9 (by decide))) _).set (p := ⟨w.heap.size + 1 + 1, 0, none⟩) (Ne.symm (hu9.ne_blk hP9 (by decide))) _⟩, by rw [HT.out, HS.out]; exact (hP9.far (p := ⟨w.heap.size + 1, 0, none⟩) (by simp) _).set_ 0 _, ((hbx.trans hb9).setCell (p := ⟨w.heap.size + 1, 0, none⟩) (by simp) _).setCell (p := ⟨w.heap.size + 1 + 1, 0, none⟩) (by simp; omega) _⟩
       case measure => simp [intOf]; omega
      ·have q1 : ((wd.length : Int) == 64) = false := beq_false_of_ne (by omega)
       have HS : Hid (plS (es, wd, (1 : Int)) (c, false) = ((flS (es, wd, 1)).1, [c], (-1 : Int))) := by unfold Hid; exact plS_cut (by rw [HO.out]; rfl) (by unfold cutS; rw [HO.out, decide_eq_false h64]; rfl)
       clear h64
       go_wp2_with fail
       refine hfl.mono ?_
       rintro e w9 ⟨rfl, hW9, ⟨u9, hO9, hu9⟩, hP9, hb9, hk9⟩
       have hX9 := hk9 _ _ hX
       unfold sV flS at hW9
       have fX9 := hX9.facts
       have fW9 := hW9.facts
       have fP9 := hP9.facts
       go_wp2
       go_roundw
       case rel => exact ⟨k + 1, by omega, by go_num, by rw [HT.out, HS.out]; unfold sV; rw [← HAE.out]; exact (hW9.set_ 0 _).far (p := ⟨w.heap.size + 1 + 1, 0, none⟩) (by simp) _, ⟨u9, by exact (hO9.far (p := ⟨w.heap.size + 1, 0, none⟩) (by simp) _).far (p := ⟨w.heap.size + 1 + 1, 0, none⟩) (by show w.heap.size ≠ w.heap.size + 1 + 1; omega) _, by rw [HT.out, HS.out]; exact (hu9.set (p := ⟨w.heap.size + 1, 0, none⟩) (Ne.symm (hu9.ne_blk hW9 (by decide))) _).set (p := ⟨w.heap.size + 1 + 1, 0, none⟩) (Ne.symm (hu9.ne_blk hP9 (by decide))) _⟩, by rw [HT.out, HS.out]; exact (hP9.far (p := ⟨w.heap.size + 1, 0, none⟩) (by simp) _).set_ 0 _, ((hbx.trans hb9).setCell (p := ⟨w.heap.size + 1, 0, none⟩) (by simp) _).setCell (p := ⟨w.heap.size + 1 + 1, 0, none⟩) (by simp; omega) _⟩
       case measure => simp [intOf]; omega
     ·by_cases h64 : wd.length = 64
      ·have q1 : ((wd.length : Int) == 64) = true := by rw [h64]; rfl
       have HS : Hid (plS (es, wd, (-1 : Int)) (c, false) = ((flS (es, wd, -1)).1, [c], (-1 : Int))) := by unfold Hid; exact plS_cut (by rw [HO.out]; rfl) (by unfold cutS; rw [HO.out, decide_eq_true h64]; rfl)
       clear h64
       go_wp2_with fail
       refine hfl.mono ?_
       rintro e w9 ⟨rfl, hW9, ⟨u9, hO9, hu9⟩, hP9, hb9, hk9⟩
       have hX9 := hk9 _ _ hX
       unfold sV flS at hW9
       have fX9 := hX9.facts
       have fW9 := hW9.facts
       have fP9 := hP9.facts
       go_wp2
       go_roundw
       case rel => exact ⟨k + 1, by omega, by go_num, by rw [HT.out, HS.out]; unfold sV; rw [← HAE.out]; exact (hW9.set_ 0 _).far (p := ⟨w.heap.size + 1 + 1, 0, none⟩) (by simp) _, ⟨u9, by exact (hO9.far (p := ⟨w.heap.size + 1, 0, none⟩) (by simp) _).far (p := ⟨w.heap.size + 1 + 1, 0, none⟩) (by show w.heap.size ≠ w.heap.size + 1 + 1; omega) _, by rw [HT.out, HS.out]; exact (hu9.set (p := ⟨w.heap.size + 1, 0, none⟩) (Ne.symm (hu9.ne_blk hW9 (by decide))) _).set (p := ⟨w.heap.size + 1 + 1, 0, none⟩) (Ne.symm (hu9.ne_blk hP9 (by decide))) _⟩, by rw [HT.out, HS.out]; exact (hP9.far (p := ⟨w.heap.size + 1, 0, none⟩) (by simp) _).set_ 0 _, ((hbx.trans hb9).setCell (p := ⟨w.heap.size + 1, 0, none⟩) (by simp) _).setCell (p := ⟨w.heap.size + 1 + 1, 0, none⟩) (by simp; omega) _⟩
       case measure => simp [intOf]; omega
      ·have q1 : ((wd.length : Int) == 64) = false := beq_false_of_ne (by omega)
       have HS : Hid (plS (es, wd, (-1 : Int)) (c, false) = (es, wd ++ [c], (-1 : Int))) := by unfold Hid; exact plS_keep (by rw [HO.out]; rfl) (by unfold cutS; rw [HO.out, decide_eq_false h64]; rfl)
       clear h64
       go_wp2
       go_roundw
       case rel => exact ⟨k + 1, by omega, by go_num, by rw [HT.out, HS.out]; unfold sV; rw [← HAP.out]; exact (hW.set_ 0 _).far (p := ⟨w.heap.size + 1 + 1, 0, none⟩) (by simp) _, ⟨u, by exact (hO.far (p := ⟨w.heap.size + 1, 0, none⟩) (by simp) _).far (p := ⟨w.heap.size + 1 + 1, 0, none⟩) (by show w.heap.size ≠ w.heap.size + 1 + 1; omega) _, by rw [HT.out, HS.out]; exact (hu.set (p := ⟨w.heap.size + 1, 0, none⟩) (Ne.symm (hu.ne_blk hW (by decide))) _).set (p := ⟨w.heap.size + 1 + 1, 0, none⟩) (Ne.symm (hu.ne_blk hP (by decide))) _⟩, by rw [HT.out, HS.out]; exact (hP.far (p := ⟨w.heap.size + 1, 0, none⟩) (by simp) _).set_ 0 _, (hbx.setCell (p := ⟨w.heap.size + 1, 0, none⟩) (by simp) _).setCell (p := ⟨w.heap.size + 1 + 1, 0, none⟩) (by simp; omega) _⟩
       case measure => simp [intOf]; omega
  ·obtain rfl : k = l.length := by omega
   rw [List.take_length] at hW hu hP hel
   have hfl := flush_any w.heap.size (w.heap.size + 1) w.heap.size (w.heap.size + 1 + 1) w.heap.size (plF l) u wo hW hO hu hP (by omega) (by omega) (Nat.le_refl _) (by omega) (Nat.le_refl _) hbk.size
   go_wp2_with fail
   refine hfl.mono ?_
   rintro e w9 ⟨rfl, _, ⟨u9, hO9, hu9⟩, _, hb9, _⟩
   have f9 := hO9.facts
   go_wp2
   go_ret
   exact ⟨_, rfl, hu9, hbk.trans hb9⟩
theorem timS_memb {e : Edg} {x : Stp} : ∀ {n : Nat}, x ∈ timS e n → x.1 ∈ e.1
 | 0, h => by cases h
 | n + 1, h => by
  rcases List.mem_append.1 h with h | h
  ·exact timS_memb h
  ·obtain ⟨c, hc, rfl⟩ := List.mem_map.1 h
   exact hc
theorem SideOk.ltrs {l : List Edg} (h : SideOk l) : ∀ x ∈ stpL l, ltr x.1 := by
 intro x hx
 unfold stpL at hx
 obtain ⟨e, he, hx⟩ := List.mem_flatMap.1 hx
 have hm := timS_memb hx
 obtain ⟨_, _, hw, _, _⟩ := edgE_zero (h.ok e he)
 unfold wrongW at hw
 rw [List.any_eq_false] at hw
 have := hw _ hm
 unfold ltr
 simp at this
 by_cases c1 : x.1 = 78
 ·exact .inl c1
 ·by_cases c2 : x.1 = 66
  ·exact .inr (.inl c2)
  ·exact .inr (.inr (this c1 c2))
theorem lettersB_any (A : Option Addr) (n c : Nat) (w : World) : Calls Tryz.prog 67 #[.slice A n c] w fun e w' =>
    ∃ B, e = .returned (.func (.func 128) #[] #[.pointer (some ⟨B, 0, none⟩)]) ∧ Blk w' B 28 #[.slice A n c] ∧ Below w.heap.size w w' := by
  refine (letters_any A n c w).mono ?_
  rintro e w' ⟨rfl, rfl⟩
  exact ⟨_, rfl, Blk.new w _ _, bl_alloc bl_refl _⟩
theorem refO_len (l : List Stp) : (refO (plF l)).length ≤ l.length := by
 have h : ∀ (l : List Stp) (s : PlS), PlOk s → (refO (l.foldl plS s)).length ≤ (refO s).length + l.length := by
  intro l
  induction l with
  | nil => intro s _; exact Nat.le_refl _
  | cons x r ih =>
   intro s hs
   have h1 := ih (plS s x) (plS_ok hs x).1
   have h2 : (refO (plS s x)).length ≤ (refO s).length + 1 := by
    by_cases hc : cutS s x = true
    ·rw [plR_cut hs hc, refO_put _ (by simp)]
     simp
    ·have hc : cutS s x = false := by simpa using hc
     have h3 : s.1.length ≤ (refO s).length := by unfold refO; split <;> simp
     rw [plR_on hs hc, refO_put _ (by simp), List.length_append]
     simp only [List.length_cons, List.length_nil]
     omega
   rw [List.foldl_cons, List.length_cons]
   omega
 have := h l ([], [], 0) ⟨.inl rfl, by simp⟩
 have e : refO ([], [], 0) = [] := rfl
 rw [e] at this
 unfold plF
 simpa using this
end Go.Proofs.YtkkefahobjlagaaGreatDoor
