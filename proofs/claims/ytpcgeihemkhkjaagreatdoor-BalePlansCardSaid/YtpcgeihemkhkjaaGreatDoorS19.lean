/- Lists and strings reversed, walked. Conditions: bounds. -/
import Derived.Test.YtpcgeihemkhkjaaGreatDoorS18
import Derived.Shelf.SlicesE.Clone
import Derived.Lib.AppendZerosOnto
import Derived.Deep.DeepAppendWide
namespace Go.Proofs.YtpcgeihemkhkjaaGreatDoor
open Go.RowKit Go.ChangeMaps
set_option maxHeartbeats 4000000
set_option maxRecDepth 100000
attribute [local go_sem] Oper.semAt_some
open Go.Sort Go.Shelf
theorem Zfo {α : Type} [Inhabited α] {f : α → Value} {enc : α → List Value} (hf : ∀ x, enc x = [f x]) (d : Array α) : flatK enc 1 d = d.map f := by
 apply Array.ext
 ·simp [flatK]
 ·intro i h1 h2
  have hi : i < d.size := by simpa using h2
  have := get_flatK enc 1 d i (by simpa using hi)
  rw [getElem!_pos _ i (by simpa [flatK] using hi)] at this
  rw [this]; simp [hf, Nat.mod_one, hi]
theorem Zfp {α : Type} [Inhabited α] {f : α → Value} {enc : α → List Value} (hf : ∀ x, enc x = [f x]) (w : World) (g o : Nat) (d : Array α) : putRowK enc 1 w g o d = putRow f w g o d := by
 unfold putRowK
 rw [Zfo hf]
 unfold putRow
 congr 1
 funext cs
 unfold putCells
 congr 1
 funext k x
 rw [Array.size_map]
 split
 ·rename_i h
  simp only [id_eq]; rw [getElem!_pos (d.map f) (k - o) (by rw [Array.size_map]; omega), getElem!_pos d (k - o) (by omega)]
  simp
 ·rfl
def yv (c : UInt8) : Value := .int .u8 c.toNat
theorem Zfq (c : UInt8) : yc c = [yv c] := rfl
theorem Zfr {base g c : Nat} (l : List UInt8) (w : World) (h : Own yc 1 base 5 w (.slice (some ⟨g, 0, none⟩) l.length c) l) (hlen : l.length ≤ 100000) :
  Calls Tryz.prog 243 #[.slice (some ⟨g, 0, none⟩) l.length c] w fun e w' => e = .returned (.tuple #[]) ∧ Own yc 1 base 5 w' (.slice (some ⟨g, 0, none⟩) l.length c) l.reverse ∧ w.grownBy w' (some g) := by
 have hH := (Z55 Zfk h).1
 have hs := Z56 Zfk h (l' := l.reverse) (by simp)
 refine (AnyE.slices_Reverse (P := Tryz.prog) Z52 yv (fun _ => rfl) g 0 c l w ((Zfn Zfq w g 0 l.toArray).1 hH) (by omega)).mono ?_
 rintro e w' ⟨rfl, n, rfl⟩
 have hs2 := hs n #[]
 have e : sortWorldK yc 1 w g 0 n l.reverse.toArray #[] = putRow yv (Sort.ahead w n) g 0 l.reverse.toArray := by
  unfold sortWorldK grow; rw [Zfp Zfq, Array.append_empty]
 rw [e] at hs2
 exact ⟨rfl, hs2.1, hs2.2⟩
theorem Zfs (b off c : Nat) (l : List UInt8) (w : World) (hr : Rd yc 1 w (some ⟨b, off, none⟩) l) (hlen : l.length ≤ 100000) :
  Calls Tryz.prog 242 #[.slice (some ⟨b, off, none⟩) l.length c] w fun e w' => ∃ g c', e = .returned (.slice (some ⟨g, 0, none⟩) l.length c') ∧ Own yc 1 w.heap.size 5 w' (.slice (some ⟨g, 0, none⟩) l.length c') l ∧ Below w.heap.size w w' := by
 obtain ⟨i, hi⟩ : ∃ i, Tryz.prog.info? 5 = some i := ⟨_, rfl⟩
 obtain ⟨z, hz, hzs⟩ : ∃ z, i.zero = some z ∧ z.cells.size = 1 := by
  have : (Tryz.prog.info? 5).bind (·.zero) = some (.int .u8 0) := by kernel_rfl
  rw [hi] at this; exact ⟨_, this, rfl⟩
 have hsb : i.size = 1 ∧ i.bytes = 1 := by
  have h1 : (Tryz.prog.info? 5).map (fun i => (i.size, i.bytes)) = some (1, 1) := by kernel_rfl
  rw [hi] at h1; simpa using h1
 have hfl : (l.flatMap yc).length = l.length * 1 := Zeh Zfk l
 refine (AnyE.slices_Clone (P := Tryz.prog) Z4y i z 1 1 hi hz hsb.1 hsb.2 hzs (by decide) (fun w => by kernel_rfl) b off l.length c (l.flatMap yc) w hfl (by unfold maxLen; omega) (by omega) ?_ ?_).mono ?_
 ·intro j u hj
  have hjl : j < l.length := by have := (List.getElem?_eq_some_iff.1 hj).1; omega
  have h2 := Zei Zfk l j 0 (by decide)
  simp only [Nat.mul_one, Nat.add_zero] at h2; rw [hj, List.getElem?_eq_getElem hjl] at h2
  obtain ⟨b', off', e, _, hc⟩ := hr j _ (List.getElem?_eq_getElem hjl)
  obtain ⟨rfl, rfl⟩ : b = b' ∧ off = off' := by simpa using e
  have := hc 0 u (by simpa using h2.symm)
  simpa using this
 ·intro u hu
  obtain ⟨x, hx, hux⟩ := List.mem_flatMap.1 hu
  exact Zfl x u hux
 ·rintro e w' ⟨v', rfl, ho, hne, hb⟩
  have hO : Own yc 1 w.heap.size 5 w' v' l := ho
  rcases hO.2 with ⟨hv, _⟩ | ⟨g, cap, cur, hv, _⟩
  ·exact absurd hv hne
  ·subst hv
   exact ⟨g, cap, rfl, hO, hb⟩
def RYr (w : World) (l : List UInt8) (e : Ending) (w' : World) : Prop := ∃ g c', e = .returned (.slice (some ⟨g, 0, none⟩) l.length c') ∧ Rd yc 1 w' (some ⟨g, 0, none⟩) l ∧ Below w.heap.size w w'
theorem Zft (b off c : Nat) (l : List UInt8) (w : World) (hr : Rd yc 1 w (some ⟨b, off, none⟩) l) (hlen : l.length ≤ 100000) :
  Calls Tryz.prog 216 #[.slice (some ⟨b, off, none⟩) l.length c] w (RYr w l.reverse) := by
 go_enter Tryz.func216, Tryz.ntmps216
 go_wp2_with fail
 refine (Zfs b off c l _ hr hlen).mono ?_
 rintro e w2 ⟨g, c', rfl, hO, hb2⟩
 go_wp2_with fail
 refine (Zfr l _ hO hlen).mono ?_
 rintro e w3 ⟨rfl, hO3, hg3⟩
 have hb3 : Below w.heap.size w w3 := Z09 hg3 hb2 (fun k e => (hO.lt k e).1)
 go_wp2
 go_ret
 refine ⟨g, c', by rw [List.length_reverse]; rfl, ?_, hb3⟩
 obtain ⟨_, _, he, _, _, hr3⟩ := hO3.rd Zfk
 obtain ⟨⟨rfl, _⟩, _⟩ := by simpa using he
 exact hr3
theorem Zfu {v : Value} (l : List Edg) (w : World) (h : SlE w v l) (hlen : l.length ≤ 100000) : Calls Tryz.prog 215 #[v] w (RG ec 3 133 w l.reverse) := by
 obtain ⟨A, c, rfl, hlc, hcm, hr⟩ := h
 go_enter Tryz.func215, Tryz.ntmps215
 go_wp2_with fail
 refine (Zfj l _ ⟨A, c, rfl, hlc, hcm, hr⟩ hlen).mono ?_
 rintro e w2 ⟨v2, rfl, hO, hb2⟩
 go_wp2_with fail
 refine (Zfm l _ hO hlen).mono ?_
 rintro e w3 ⟨rfl, hO3, hg3⟩
 have hb3 : Below w.heap.size w w3 := Z09 hg3 hb2 (fun k e => (hO.lt k e).1)
 go_wp2
 go_ret
 exact ⟨_, rfl, hO3, hb3⟩
def rowT {α : Type} (enc : α → List Value) (l : List α) (tail : List Value) : Array Value := (l.flatMap enc ++ tail).toArray
section
variable {α : Type} {enc : α → List Value} {sz base g c n : Nat} {e : TypeId} {w : World}
theorem Zfv (hk : ∀ x, (enc x).length = sz) {l : List α} (h : Own enc sz base e w (.slice (some ⟨g, 0, none⟩) n c) l) :
    l.length = n ∧ base ≤ g ∧ ∃ tail, Blk w g e (rowT enc l tail) ∧ ∀ w' l', l'.length = l.length → Blk w' g e (rowT enc l' tail) → Own enc sz base e w' (.slice (some ⟨g, 0, none⟩) n c) l' := by
  obtain ⟨hl, hc⟩ := h; rcases hc with ⟨hv, _⟩ | ⟨g', cap, cur, hv, hg, hh, hnc, hcm, hcs, htk⟩
  · cases hv
  · obtain ⟨h1, h2, h3⟩ := Value.slice.inj hv
    obtain rfl : g = g' := by simpa using h1
    subst h2 h3
    have ht : cur.toList = l.flatMap enc ++ cur.toList.drop (l.length * sz) := by
      rw [← htk]; exact (List.take_append_drop _ _).symm
    refine ⟨rfl, hg, cur.toList.drop (l.length * sz), ?_, ?_⟩
    · unfold rowT
      rw [← ht]; simpa [Blk] using hh
    · intro w' l' hl' hB
      refine ⟨Zeh hk l', .inr ⟨g, _, _, by rw [hl'], hg, hB, by omega, hcm, ?_, ?_⟩⟩
      · have hsz : cur.size = (l.flatMap enc).length + (cur.toList.drop (l.length * sz)).length := by
          rw [← List.length_append, ← ht, Array.length_toList]
        unfold rowT; have h9 := Zeh hk l
        rw [List.size_toArray, List.length_append, Zeh hk, hl']; omega
      · unfold rowT
        rw [List.toList_toArray, hl', ← hl', ← Zeh hk l']; exact List.take_left
theorem Zfw (hk : ∀ x, (enc x).length = sz) {l : List α} (tail : List Value) {i j : Nat} {x : α} (hx : l[i]? = some x) (hj : j < sz) : (rowT enc l tail)[i * sz + j]? = (enc x)[j]? := by
 have hi : i < l.length := (List.getElem?_eq_some_iff.1 hx).1
 have hlt : i * sz + j < (l.flatMap enc).length := by
  rw [Zeh hk]; have := Nat.mul_le_mul_right sz (show i + 1 ≤ l.length by omega)
  rw [Nat.succ_mul] at this; omega
 unfold rowT
 rw [List.getElem?_toArray, List.getElem?_append_left hlt, Zei hk l i j hj, hx]
 rfl
theorem Zfx (hk : ∀ x, (enc x).length = sz) {l : List α} (tail : List Value) {i j : Nat} {u : Value} {x : α} (x' : α) (hx : l[i]? = some x) (hj : j < sz) (he : enc x' = (enc x).set j u) : (rowT enc l tail).setIfInBounds (i * sz + j) u = rowT enc (l.set i x') tail := by
 have hi : i < l.length := (List.getElem?_eq_some_iff.1 hx).1
 have hlt : i * sz + j < (l.flatMap enc).length := by
  rw [Zeh hk]; have := Nat.mul_le_mul_right sz (show i + 1 ≤ l.length by omega)
  rw [Nat.succ_mul] at this; omega
 unfold rowT
 rw [List.setIfInBounds_toArray, List.set_append_left _ _ hlt, Zej hk l i j x hx hj he]
theorem Zfy (hk : ∀ x, (enc x).length = sz) (l : List α) (tail : List Value) : (rowT enc l tail).size = l.length * sz + tail.length := by
 unfold rowT
 rw [List.size_toArray, List.length_append, Zeh hk]
end
def oppE (e : Edg) : Edg := (e.1.reverse, e.2.1, !e.2.2)
def oppL (l : List Edg) : List Edg := l.reverse.map oppE
def mixL (l : List Edg) (k : Nat) : List Edg := (l.take k).map oppE ++ l.drop k
theorem Zfz (l : List Edg) {k : Nat} (hk : k ≤ l.length) : (mixL l k).length = l.length := by unfold mixL; simp; omega
theorem Zg0 (l : List Edg) {k : Nat} (hk : k < l.length) : (mixL l k)[k]? = some l[k] := by
 have h1 : ((l.take k).map oppE).length = k := by simp; omega
 unfold mixL
 rw [List.getElem?_append_right (by omega), h1, Nat.sub_self, List.drop_eq_getElem_cons hk]
 rfl
theorem Zg1 (l : List Edg) {k : Nat} (hk : k < l.length) : (mixL l k).set k (oppE l[k]) = mixL l (k + 1) := by
 unfold mixL
 have h1 : ((l.take k).map oppE).length = k := by simp; omega
 rw [List.set_append_right _ _ (by omega), h1, Nat.sub_self, List.drop_eq_getElem_cons hk, List.take_succ_eq_append_getElem hk, List.map_append, List.append_assoc]
 rfl
theorem Zg2 (w : World) (l : List UInt8) (c : Nat) (e : TypeId) (fz : Nat × Nat) : Rd yc 1 (w.drew.alloc (.cells (bytesRow ⟨l.toArray⟩ c) e fz)) (some ⟨w.heap.size, 0, none⟩) l := by
 intro i x hx
 have hi := (List.getElem?_eq_some_iff.1 hx).1
 refine ⟨w.heap.size, 0, rfl, by simp, fun j u hu => ?_⟩
 obtain ⟨rfl, rfl⟩ : j = 0 ∧ u = .int .u8 x.toNat := by
  match j, hu with
  | 0, hu => exact ⟨rfl, by simpa [yc] using hu.symm⟩
 rw [cell_of_row _ w.heap.size _ _ e fz (heap_alloc_new w.drew _)]
 unfold bytesRow
 rw [Array.getElem?_append_left (by simpa using hi)]
 simp [hx]
theorem Zg3 (w : World) (g c : Nat) (l : List UInt8) (hr : Rd yc 1 w (some ⟨g, 0, none⟩) l) : (convert 244 9 (.slice (some ⟨g, 0, none⟩) l.length c)).run Tryz.prog w = .ok (sV l) w :=
 run_convert_bytes_back w _ _ 5 _ c l (by kernel_rfl) (by kernel_rfl) (by kernel_rfl) fun j hj => by
  obtain ⟨b, off, e, _, hc⟩ := hr j _ (List.getElem?_eq_getElem hj)
  obtain ⟨rfl, rfl⟩ : g = b ∧ 0 = off := by simpa using e
  have := hc 0 _ rfl
  simp only [Nat.zero_add, Nat.mul_one, Nat.add_zero] at this; unfold Addr.add; split
  ·rename_i h0
   subst h0; exact this
  ·simpa using this
theorem Zg4 (w : World) (l : List UInt8) : ∃ c, (convert 9 244 (.string ⟨l.toArray⟩)).run Tryz.prog w = .ok (.slice (some ⟨w.heap.size, 0, none⟩) l.length c) (w.drew.alloc (.cells (bytesRow ⟨l.toArray⟩ c) 5 ((bytesRow ⟨l.toArray⟩ c).size, (bytesRow ⟨l.toArray⟩ c).size + 1))) :=
 ⟨_, run_bytes_of_string w 9 244 5 ⟨l.toArray⟩ (by kernel_rfl) (by kernel_rfl) (by kernel_rfl)⟩
theorem Zg5 {v : Value} (l : List Edg) (w : World) (h : SlE w v l) (hlen : l.length ≤ 1000) (hw : ∀ e ∈ l, e.1.length ≤ 1000) :
  Calls Tryz.prog 188 #[v] w (RG ec 3 133 w (oppL l)) := by
 have hre := Zfu l w h (by omega)
 obtain ⟨A, c, rfl, _, _, _⟩ := h
 have hwr : ∀ e ∈ l.reverse, e.1.length ≤ 1000 := fun e he => hw e (by simpa using he)
 have hlr : l.reverse.length ≤ 1000 := by simpa using hlen
 have HO : Hid (oppL l = mixL l.reverse l.reverse.length) := by unfold Hid oppL mixL; rw [List.take_length, List.drop_length, List.append_nil]
 obtain ⟨R, hR⟩ : ∃ R, l.reverse = R := ⟨_, rfl⟩
 rw [hR] at hre hwr hlr HO
 have HW := Lib.hid hwr
 clear hR hw hwr
 go_enter Tryz.func188, Tryz.ntmps188
 go_wp2_with fail
 refine (hre).mono ?_
 rintro e w2 ⟨v2, rfl, hO2, hb2⟩
 obtain ⟨A2, c2, rfl⟩ := hO2.shape
 go_wp2
 go_loopw [10] (fun s wr => ∃ k : Nat, k ≤ R.length ∧ s = .int .i64 k ∧ Own ec 3 w.heap.size 133 wr (.slice A2 R.length c2) (mixL R k) ∧ Below w.heap.size w wr) (fun s _ => R.length - (intOf s).toNat)
 case atStart => exact ⟨0, Nat.zero_le _, rfl, by simpa [mixL] using hO2, hb2⟩
 case round =>
  clear hO2 hb2; obtain ⟨k, hk, rfl, hO, hbk⟩ := hrel; obtain ⟨wo, rfl⟩ : ∃ x, x = wr := ⟨_, rfl⟩
  by_cases hlt : k < R.length
  ·have hml := Zfz R hk
   have hmg := Zg0 R hlt
   have HMS := Lib.hid (Zg1 R hlt)
   have hwl := HW.out _ (List.getElem_mem hlt)
   obtain ⟨g, rfl⟩ : ∃ g, A2 = some ⟨g, 0, none⟩ := by
    rcases hO.2 with ⟨hv, hn⟩ | ⟨g, cap, cur, hv, _⟩
    ·rw [hml] at hn; omega
    ·exact ⟨g, (Value.slice.inj hv).1⟩
   obtain ⟨_, hgw, tail, hB, hback⟩ := Zfv Z8i hO
   have HBK := Lib.hid hback
   have hgl := hB.lt
   obtain ⟨⟨s, t, o⟩, hx⟩ : ∃ z, R[k] = z := ⟨_, rfl⟩
   rw [hx] at hmg HMS hwl; simp only at hwl
   obtain ⟨M, hM⟩ : ∃ M, mixL R k = M := ⟨_, rfl⟩
   rw [hM] at hO hB hml hmg HMS HBK; have c0 := Zfw Z8i tail hmg (j := 0) (by decide)
   have c1 := Zfw Z8i tail hmg (j := 1) (by decide)
   have c2' := Zfw Z8i tail hmg (j := 2) (by decide)
   have d0 : wo.cell? ⟨g, k * 3, none⟩ = some (sV s) := by have := hB.cell (k * 3 + 0); rw [c0] at this; exact this
   have d1 : wo.cell? ⟨g, k * 3 + 1, none⟩ = some (.int .i64 t) := by rw [hB.cell, c1]; rfl
   have d2 : wo.cell? ⟨g, k * 3 + 2, none⟩ = some (.bool o) := by rw [hB.cell, c2']; rfl
   clear hx hM c0 c1 c2' hback; unfold sV at d0; have hE := Blk.new wo 133 #[.string ⟨s.toArray⟩, .int .i64 t, .bool o]
   replace hB := hB.alloc (.cells #[.string ⟨s.toArray⟩, .int .i64 t, .bool o] 133)
   have hbx := Z04 hbk (.cells #[.string ⟨s.toArray⟩, .int .i64 t, .bool o] 133)
   go_upto_region 5 with fail; obtain ⟨wx, hwx⟩ : ∃ X, wo.alloc (.cells #[.string ⟨s.toArray⟩, .int .i64 t, .bool o] 133) = X := ⟨_, rfl⟩
   obtain ⟨gx, hgx⟩ : ∃ X, wo.heap.size = X := ⟨_, rfl⟩
   rw [hwx] at hB hbx; rw [hwx, hgx] at hE; rw [hwx, hgx]; rw [hgx] at hgl; clear hwx hgx d0 d1 d2 hO hbk; have fE := hE.facts
   have fB := hB.facts
   obtain ⟨cb, hcv⟩ := Zg4 wx.drew s
   obtain ⟨Bs, hBs⟩ : ∃ B : ByteArray, ({ data := s.reverse.toArray } : ByteArray) = B := ⟨_, rfl⟩
   have HSV : Hid (sV s.reverse = .string Bs) := by unfold Hid sV; rw [hBs]
   clear hBs; refine Z0z [0, 1, 2, 3, 7, 8, 9, 10, 11] [(4, false), (5, false), (6, false), (12, false)] [13, 14] (by kernel_rfl) (by kernel_rfl) (fun d _ _ _ _ h => by cases d <;> exact h) ?_
   simp only [List.map_cons, List.map_nil, List.getD_cons_zero, List.getD_cons_succ]; repeat (go_big_quiet_step (fail))
   refine wpQuiet_nil ?_; refine Z11 rfl (fun K hK => ?_); go_simp; refine hK _ _ (by (repeat first|exact J0|assumption|(apply J1;assumption)|apply J2|apply J3|apply J4)) ?_
   clear hK K; refine Z11 rfl (fun K hK => ?_); go_simp; refine (Zft _ 0 cb s _ (Zg2 wx.drew s cb _ _) (by omega)).mono ?_
   rintro e w5 ⟨g5, c5, rfl, hr5, hb5⟩; refine hK _ _ (by (repeat first|exact J0|assumption|(apply J1;assumption)|apply J2|apply J3|apply J4)) ?_
   clear hK K; have hB_w5 := hB.below (show Below _ _ w5 by (repeat first|exact J0|assumption|(apply J1;assumption)|apply J2|apply J3|apply J4))
   have fhB_w5 := hB_w5.facts
   have hbk5 := Zg3 w5 g5 c5 s.reverse hr5
   rw [List.length_reverse, HSV.out] at hbk5; iterate 2 (refine Z11 rfl (fun K hK => ?_); go_simp; refine hK _ _ (by (repeat first|exact J0|assumption|(apply J1;assumption)|apply J2|apply J3|apply J4)) ?_; clear hK K)
   refine Z10 ?_; have hB5 := hB.below (show Below wx.heap.size wx w5 by (repeat first|exact J0|assumption|(apply J1;assumption)|apply J2|apply J3|apply J4))
   have hbw5 : Below w.heap.size w w5 := by (repeat first|exact J0|assumption|(apply J1;assumption)|apply J2|apply J3|apply J4)
   have hkl : k < M.length := by omega
   have r0 := Zfx Z8i tail (j := 0) (u := .string Bs) (s.reverse, t, o) hmg (by decide) (by rw [← HSV.out]; rfl)
   have hm1 : (M.set k (s.reverse, t, o))[k]? = some (s.reverse, t, o) := by simp [hkl]
   have r1 := Zfx Z8i tail (j := 1) (u := .int .i64 t) (s.reverse, t, o) hm1 (by decide) rfl
   have hm2 : ((M.set k (s.reverse, t, o)).set k (s.reverse, t, o))[k]? = some (s.reverse, t, o) := by simp [hkl]
   have r2 := Zfx Z8i tail (j := 2) (u := .bool (!o)) (s.reverse, t, !o) hm2 (by decide) rfl
   simp only [Nat.add_zero] at r0; have hS := ((hB5.set_ (k * 3) (.string Bs)).set_ (k * 3 + 1) (.int .i64 t)).set_ (k * 3 + 2) (.bool (!o))
   rw [r0, r1, r2, List.set_set, List.set_set, show ((s.reverse, t, !o) : Edg) = oppE (s, t, o) from rfl, HMS.out] at hS
   have hOS := HBK.out _ _ (by rw [Zfz R (by omega), hml]) hS
   have hbS : Below w.heap.size w (((w5.setCell ⟨g, k * 3, none⟩ (.string Bs)).setCell ⟨g, k * 3 + 1, none⟩ (.int .i64 t)).setCell ⟨g, k * 3 + 2, none⟩ (.bool (!o))) := Z07 (Z07 (Z07 hbw5 hgw _) hgw _) hgw _
   clear r0 r1 r2 hm1 hm2 hmg hcv; go_wp2_with (refine Zed hB5 rfl _ _ _ rfl rfl rfl (by rw [Zfy Z8i]; simp; omega) (by kernel_rfl) (by kernel_rfl) ?_)
   simp only [World.setCells]; go_wp2; go_roundw; case rel => exact ⟨k + 1, by omega, by go_num, hOS, hbS⟩
   case measure => simp [intOf]; omega
  ·obtain rfl : k = R.length := by omega
   go_wp2; go_ret; exact ⟨_, rfl, by rw [HO.out]; exact hO, hbk⟩
end Go.Proofs.YtpcgeihemkhkjaaGreatDoor
namespace Go.Proofs.YtpcgeihemkhkjaaGreatDoor
open Go.RowKit Go.ChangeMaps
set_option maxHeartbeats 4000000
set_option maxRecDepth 100000
attribute [local go_sem] Oper.semAt_some
theorem Zg6 {P : Program} {ops : Array Oper} {rest : List Oper} {o : Oper} {a : Act} {Q : Exit → Act → World → Prop} {w w' : World} {v x y : Value} {ts : Array TypeId} (hgd : o.guard = none) (p q : Operand) (ho : o.op = .call { callee := .builtin .append, args := #[p, q], argTypes := ts }) (hp : a.eval p = x) (hq : a.eval q = y)
    (hr : ∀ ty, (Builtin.append_ ts ty #[x, y]).run P w = .ok v w') (h : wpList P ops Q rest (a.put o.dst v) w') : wpList P ops Q (o :: rest) a w := by
  refine wpList_plain hgd fun K hK' => ?_
  have hr := hr o.type
  unfold Oper.wp; simp [execOp, ho, resolve, invoke, builtin, hp, hq, hr, Result.andThen]
  exact hK' _ _ h
theorem Zg7 (n : Nat) (w : World) (h0 : 0 < n) (hn : n ≤ 100000) : Calls Tryz.prog 200 #[.slice none 0 0, .int .i64 n] w fun e w' =>
    ∃ G, e = .returned (.slice (some ⟨w.heap.size, 0, none⟩) 0 G) ∧ OwK w.heap.size w' (.slice (some ⟨w.heap.size, 0, none⟩) 0 G) [] ∧ Below w.heap.size w w' := by
  obtain ⟨i, hi⟩ : ∃ i, Tryz.prog.info? 90 = some i := ⟨_, rfl⟩
  obtain ⟨z, hz, hzs⟩ : ∃ z, i.zero = some z ∧ z.cells.size = 2 := by
    have : (Tryz.prog.info? 90).bind (·.zero) = some (.agg #[.int .i64 0, .int .i64 0]) := by kernel_rfl
    rw [hi] at this; exact ⟨_, this, rfl⟩
  have hsb : i.size = 2 ∧ i.bytes = 16 := by
    have h1 : (Tryz.prog.info? 90).map (fun i => (i.size, i.bytes)) = some (2, 16) := by kernel_rfl
    rw [hi] at h1; simpa using h1
  have hold : (Builtin.firstCells i.size 0 (.slice none 0 0)).run Tryz.prog w.drew = .ok #[] w.drew := run_firstCells_none w.drew i.size 0 0 0
  have hfit : Builtin.nextslicecap (0 + n) 0 * i.bytes ≤ 281474976710656 := growslice_fits_wide (by omega) (by rw [hsb.2]; omega)
  have hrz : ∀ ty, (Builtin.append_ #[209, 3] ty #[.slice none 0 0, .int .i64 (n : Int)]).run Tryz.prog w = _ := fun ty => Lib.run_append_grow_zeros w 209 3 ty 90 i z .i64 .i64 (by kernel_rfl) (by kernel_rfl) hi hz none 0 0 [] hold n (by omega) (by omega) (by omega) (by omega) (by rw [hsb.2]; omega) hfit
  have hG1 := grownCap_ge w (0 + n) 0 90
  have hG2 := grownCap_le_maxLen w (0 + n) 0 90 (by unfold maxLen; omega)
  obtain ⟨G, hG⟩ : ∃ G, grownCap w (0 + n) 0 90 = G := ⟨_, rfl⟩
  rw [hG] at hrz hG1 hG2; obtain ⟨X, hX⟩ : ∃ X : Array Value, (([] : List Value).toArray ++ Builtin.zeroCells z.cells n ++ Builtin.zeroCells z.cells (G - (0 + n))) = X := ⟨_, rfl⟩
  have hXs : X.size = G * 2 := by
    rw [← hX]; simp only [Array.size_append, size_zeroCells, hzs, List.size_toArray, List.length_nil]; omega
  rw [hX] at hrz
  have hO : OwK w.heap.size (w.drew.alloc (.cells X 90)) (.slice (some ⟨w.heap.size, 0, none⟩) 0 G) [] :=
    ⟨rfl, .inr ⟨w.heap.size, G, X, rfl, Nat.le_refl _, heap_alloc_new w.drew _, Nat.zero_le _, hG2, hXs, by simp⟩⟩
  rw [Nat.zero_add] at hrz; have hn0 : ¬ ((n : Int) < 0) := by omega
  have hn1 : 0 < (n : Int) := by omega
  have hb : Below w.heap.size w (w.drew.alloc (.cells X 90)) := Z04 (Z05 Z03) _
  obtain ⟨w2, hw2⟩ : ∃ X', w.drew.alloc (.cells X 90) = X' := ⟨_, rfl⟩
  rw [hw2] at hrz hO hb; clear hX hXs hold hfit hG hw2 hi hz hzs hsb; go_enter Tryz.func200, Tryz.ntmps200
  go_wp2_with (at_builtin; refine Zg6 rfl _ _ rfl rfl rfl hrz ?_)
  go_ret; exact ⟨G, rfl, hO, hb⟩
theorem Zg8 (a b : List Knot) (A B : Option Addr) (c d g c0 : Nat) (w : World) (hg : g < w.heap.size) (h0 : w.cell? ⟨g, 0, none⟩ = some (.slice A a.length c)) (h1 : w.cell? ⟨g, 1, none⟩ = some (.slice B b.length d))
  (hA : SlK w (.slice A a.length c) a) (hB : SlK w (.slice B b.length d) b) (hp : 0 < a.length) (hl : a.length ≤ 10000) (hl2 : b.length ≤ 10000) :
  Calls Tryz.prog 166 #[.slice (some ⟨g, 0, none⟩) 2 c0] w (RK w (a ++ b)) := by
 have hcast : (a.length : Int) + (b.length : Int) = ((a.length + b.length : Nat) : Int) := by push_cast; rfl
 have HC := Lib.hid hcast
 clear hcast
 have hz0 : ¬ ((a.length : Int) < 0) := by omega
 have hz1 : ¬ ((a.length : Int) + (b.length : Int) < 0) := by omega
 go_enter Tryz.func166, Tryz.ntmps166
 go_wp2
 go_loop [3, 11] (fun s3 s11 => (s3 = .int .i64 0 ∧ s11 = .int .i64 0) ∨ (s3 = .int .i64 a.length ∧ s11 = .int .i64 1) ∨ (s3 = .int .i64 ((a.length : Int) + (b.length : Int)) ∧ s11 = .int .i64 2)) (fun _ i => 2 - (intOf i).toNat)
 case atStart => exact .inl ⟨rfl, rfl⟩
 case round =>
  rcases hrel with ⟨rfl, rfl⟩ | ⟨rfl, rfl⟩ | ⟨rfl, rfl⟩
  ·go_wp2
   go_round
   case rel => exact .inr (.inl ⟨rfl, rfl⟩)
   case measure => simp [intOf]
  ·go_wp2
   go_round
   case rel => exact .inr (.inr ⟨rfl, rfl⟩)
   case measure => simp [intOf]
  ·have hgr := fun W => Zg7 (a.length + b.length) W (by omega) (by omega)
   rw [← HC.out] at hgr; go_wp2_with fail; refine (hgr _).mono ?_
   rintro e w2 ⟨G, rfl, hO, hb2⟩; clear hgr hz0 hz1; go_wp2; go_loopw [6, 27] (fun s6 s27 wr => ∃ l, ((l = [] ∧ s27 = .int .i64 0) ∨ (l = a ∧ s27 = .int .i64 1) ∨ (l = a ++ b ∧ s27 = .int .i64 2)) ∧ OwK w.heap.size wr s6 l ∧ Below w.heap.size w wr) (fun _ i _ => 2 - (intOf i).toNat)
   case atStart => exact ⟨[], .inl ⟨rfl, rfl⟩, hO, hb2⟩
   case round =>
    clear hO hb2; obtain ⟨l, hl', hO, hbk⟩ := hrel; obtain ⟨AO, cO, rfl⟩ := hO.shape; have h20 : wr.cell? ⟨g, 0, none⟩ = some (.slice A a.length c) := (hbk.cell (p := ⟨g, 0, none⟩) hg).trans h0
    have h21 : wr.cell? ⟨g, 1, none⟩ = some (.slice B b.length d) := (hbk.cell (p := ⟨g, 1, none⟩) hg).trans h1
    have hg2 : g < wr.heap.size := Nat.lt_of_lt_of_le hg hbk.size
    rcases hl' with ⟨rfl, rfl⟩ | ⟨rfl, rfl⟩ | ⟨rfl, rfl⟩
    ·go_wp2_with (at_builtin; refine Z43 hO (hA.below hbk) rfl _ _ rfl rfl rfl (by simp; omega) hbk.size ?_; intro v5 w5 hO5 hg5)
     go_roundw; case rel => exact ⟨_, .inr (.inl ⟨by simp, rfl⟩), hO5, Z09 hg5 hbk (fun k e => (hO.lt k e).1)⟩
     case measure => simp [intOf]
    ·go_wp2_with (at_builtin; refine Z43 hO (hB.below hbk) rfl _ _ rfl rfl rfl (by omega) hbk.size ?_; intro v5 w5 hO5 hg5)
     go_roundw; case rel => exact ⟨_, .inr (.inr ⟨rfl, rfl⟩), hO5, Z09 hg5 hbk (fun k e => (hO.lt k e).1)⟩
     case measure => simp [intOf]
    ·go_wp2
     go_ret; exact ⟨_, rfl, hO, hbk⟩
end Go.Proofs.YtpcgeihemkhkjaaGreatDoor
