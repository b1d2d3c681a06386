/- The law of Bale: its pieces; panels of the reference as those of the program, walked. Conditions: bounds. -/
import Derived.Test.YtpcgeihemkhkjaaGreatDoorS39
import Derived.Test.YtpcgeihemkhkjaaGreatDoorS31
import Derived.Test.YtpcgeihemkhkjaaGreatDoorS04
import Derived.Test.YtpcgeihemkhkjaaGreatDoorS06
import Derived.ChangeKeysEq
import Derived.Test.YtpcgeihemkhkjaaGreatDoorS30
import Derived.Test.YtpcgeihemkhkjaaGreatDoorS23
namespace Go.Proofs.YtpcgeihemkhkjaaGreatDoor
open Go.RowKit Go.ChangeMaps
set_option maxHeartbeats 4000000
set_option maxRecDepth 100000
attribute [local go_sem] Oper.semAt_some
theorem Zr8 {α : Type} {enc : α → List Value} {sz : Nat} (w : World) {base : Nat} (hb : base ≤ w.heap.size) (t : TypeId) (l : List α) (henc : ∀ x, (enc x).length = sz) (hl : l.length ≤ 1000) (cs : Array Value) (hc : cs = (l.flatMap enc).toArray) (n : Nat) (hn : n = l.length) : Own enc sz base t (w.alloc (.cells cs t)) (.slice (some ⟨w.heap.size, 0, none⟩) n n) l := by
 subst hc hn
 have hs : ∀ l : List α, (l.flatMap enc).length = l.length * sz := fun l => by
  induction l with
  | nil => simp
  | cons a r ih => rw [List.flatMap_cons, List.length_append, henc, ih, List.length_cons, Nat.succ_mul, Nat.add_comm]
 exact ⟨hs l, .inr ⟨w.heap.size, l.length, _, rfl, hb, heap_alloc_new w _, Nat.le_refl _, by simp [maxLen]; omega, by simpa using hs l, by rw [← hs l]; exact List.take_length⟩⟩
theorem Zr9 (w : World) : Calls Tryz.prog 51 #[] w (RPS w pcsB) := by
 have q0 := Sl.oneG (enc := ec) (sz := 3) w 133 (([78], 1, false) : Edg) #[.string ⟨#[78]⟩, .int .i64 1, .bool false] rfl
 replace q0 := q0.alloc (.cells #[.string ⟨#[66, 66]⟩, .int .i64 1, .bool true] 133)
 replace q0 := q0.alloc (.cells #[.string ⟨#[66, 66]⟩, .int .i64 1, .bool false] 133)
 replace q0 := q0.alloc (.cells #[.string ⟨#[78]⟩, .int .i64 1, .bool false] 133)
 replace q0 := q0.alloc (.cells #[.string ⟨#[119, 105, 110, 103]⟩, .int .i64 2, .slice (some ⟨w.heap.size, 0, none⟩) 1 1, .slice (some ⟨w.heap.size + 1, 0, none⟩) 1 1, .string ⟨#[100, 111, 111, 114]⟩, .int .i64 3, .slice (some ⟨w.heap.size + 1 + 1, 0, none⟩) 1 1, .slice (some ⟨w.heap.size + 1 + 1 + 1, 0, none⟩) 1 1] 97)
 have q1 := Sl.oneG (enc := ec) (sz := 3) (w.alloc (.cells #[.string ⟨#[78]⟩, .int .i64 1, .bool false] 133)) 133 (([66, 66], 1, true) : Edg) #[.string ⟨#[66, 66]⟩, .int .i64 1, .bool true] rfl
 rw [World.size_alloc] at q1
 replace q1 := q1.alloc (.cells #[.string ⟨#[66, 66]⟩, .int .i64 1, .bool false] 133)
 replace q1 := q1.alloc (.cells #[.string ⟨#[78]⟩, .int .i64 1, .bool false] 133)
 replace q1 := q1.alloc (.cells #[.string ⟨#[119, 105, 110, 103]⟩, .int .i64 2, .slice (some ⟨w.heap.size, 0, none⟩) 1 1, .slice (some ⟨w.heap.size + 1, 0, none⟩) 1 1, .string ⟨#[100, 111, 111, 114]⟩, .int .i64 3, .slice (some ⟨w.heap.size + 1 + 1, 0, none⟩) 1 1, .slice (some ⟨w.heap.size + 1 + 1 + 1, 0, none⟩) 1 1] 97)
 have q2 := Sl.oneG (enc := ec) (sz := 3) ((w.alloc (.cells #[.string ⟨#[78]⟩, .int .i64 1, .bool false] 133)).alloc (.cells #[.string ⟨#[66, 66]⟩, .int .i64 1, .bool true] 133)) 133 (([66, 66], 1, false) : Edg) #[.string ⟨#[66, 66]⟩, .int .i64 1, .bool false] rfl
 rw [World.size_alloc, World.size_alloc] at q2
 replace q2 := q2.alloc (.cells #[.string ⟨#[78]⟩, .int .i64 1, .bool false] 133)
 replace q2 := q2.alloc (.cells #[.string ⟨#[119, 105, 110, 103]⟩, .int .i64 2, .slice (some ⟨w.heap.size, 0, none⟩) 1 1, .slice (some ⟨w.heap.size + 1, 0, none⟩) 1 1, .string ⟨#[100, 111, 111, 114]⟩, .int .i64 3, .slice (some ⟨w.heap.size + 1 + 1, 0, none⟩) 1 1, .slice (some ⟨w.heap.size + 1 + 1 + 1, 0, none⟩) 1 1] 97)
 have q3 := Sl.oneG (enc := ec) (sz := 3) (((w.alloc (.cells #[.string ⟨#[78]⟩, .int .i64 1, .bool false] 133)).alloc (.cells #[.string ⟨#[66, 66]⟩, .int .i64 1, .bool true] 133)).alloc (.cells #[.string ⟨#[66, 66]⟩, .int .i64 1, .bool false] 133)) 133 (([78], 1, false) : Edg) #[.string ⟨#[78]⟩, .int .i64 1, .bool false] rfl
 rw [World.size_alloc, World.size_alloc, World.size_alloc] at q3
 replace q3 := q3.alloc (.cells #[.string ⟨#[119, 105, 110, 103]⟩, .int .i64 2, .slice (some ⟨w.heap.size, 0, none⟩) 1 1, .slice (some ⟨w.heap.size + 1, 0, none⟩) 1 1, .string ⟨#[100, 111, 111, 114]⟩, .int .i64 3, .slice (some ⟨w.heap.size + 1 + 1, 0, none⟩) 1 1, .slice (some ⟨w.heap.size + 1 + 1 + 1, 0, none⟩) 1 1] 97)
 have hs := (Zr8 (enc := pnc) (sz := 4) ((((w.alloc (.cells #[.string ⟨#[78]⟩, .int .i64 1, .bool false] 133)).alloc (.cells #[.string ⟨#[66, 66]⟩, .int .i64 1, .bool true] 133)).alloc (.cells #[.string ⟨#[66, 66]⟩, .int .i64 1, .bool false] 133)).alloc (.cells #[.string ⟨#[78]⟩, .int .i64 1, .bool false] 133)) (Nat.le_refl _) 97 ([([119, 105, 110, 103], 2, (some ⟨w.heap.size, 0, none⟩, 1, 1), (some ⟨w.heap.size + 1, 0, none⟩, 1, 1)), ([100, 111, 111, 114], 3, (some ⟨w.heap.size + 1 + 1, 0, none⟩, 1, 1), (some ⟨w.heap.size + 1 + 1 + 1, 0, none⟩, 1, 1))] : List PnV) Zgf (by simp) #[.string ⟨#[119, 105, 110, 103]⟩, .int .i64 2, .slice (some ⟨w.heap.size, 0, none⟩) 1 1, .slice (some ⟨w.heap.size + 1, 0, none⟩) 1 1, .string ⟨#[100, 111, 111, 114]⟩, .int .i64 3, .slice (some ⟨w.heap.size + 1 + 1, 0, none⟩) 1 1, .slice (some ⟨w.heap.size + 1 + 1 + 1, 0, none⟩) 1 1] rfl 2 rfl).rd Zgf
 rw [World.size_alloc, World.size_alloc, World.size_alloc, World.size_alloc] at hs
 have hb : Below w.heap.size w (((((w.alloc (.cells #[.string ⟨#[78]⟩, .int .i64 1, .bool false] 133)).alloc (.cells #[.string ⟨#[66, 66]⟩, .int .i64 1, .bool true] 133)).alloc (.cells #[.string ⟨#[66, 66]⟩, .int .i64 1, .bool false] 133)).alloc (.cells #[.string ⟨#[78]⟩, .int .i64 1, .bool false] 133)).alloc (.cells #[.string ⟨#[119, 105, 110, 103]⟩, .int .i64 2, .slice (some ⟨w.heap.size, 0, none⟩) 1 1, .slice (some ⟨w.heap.size + 1, 0, none⟩) 1 1, .string ⟨#[100, 111, 111, 114]⟩, .int .i64 3, .slice (some ⟨w.heap.size + 1 + 1, 0, none⟩) 1 1, .slice (some ⟨w.heap.size + 1 + 1 + 1, 0, none⟩) 1 1] 97)) := Z04 (Z04 (Z04 (Z04 (Z04 Z03 _) _) _) _) _
 go_enter Tryz.func51, Tryz.ntmps51
 go_wp2
 go_ret
 exact ⟨_, rfl, ⟨_, hs, ⟨⟨rfl, rfl, q0, q1⟩, ⟨rfl, rfl, q2, q3⟩, trivial⟩⟩, hb⟩
theorem l5given_any {v : Value} (l : List Pan) (w : World) (h : SlP w v l) (hln : l.length ≤ 100000) (hwl : ∀ p ∈ l, p.2.2.1.length ≤ 100000 ∧ p.2.2.2.length ≤ 100000) :
  Calls Tryz.prog 11 #[v] w (RPS w l) := by
 obtain ⟨xs, ⟨A, c, rfl, hlc, hcm, hr⟩, hx⟩ := h
 have HLN := Lib.hid hx.len
 have hl1 : xs.length ≤ l.length := Nat.le_of_eq HLN.out
 have hl2 : l.length ≤ xs.length := Nat.le_of_eq HLN.out.symm
 have HWL := Lib.hid hwl
 clear hwl
 go_enter Tryz.func11, Tryz.ntmps11
 go_wp2
 go_loopw [3, 13] (fun s3 s13 wr => ∃ (k : Nat) (ys : List PnV), k ≤ xs.length ∧ s13 = .int .i64 k ∧ Own pnc 4 w.heap.size 97 wr s3 ys ∧ Zr7 133 w.heap.size wr ys (l.take k) ∧ Below w.heap.size w wr) (fun _ i _ => xs.length - (intOf i).toNat)
 case atStart => exact ⟨0, [], Nat.zero_le _, rfl, Own.nil_, trivial, by (repeat first|exact J0|assumption|(apply J1;assumption)|apply J2|apply J3|apply J4)⟩
 case round =>
  obtain ⟨q, ys, hq, rfl, hOut, hys, hbo⟩ := hrel; obtain ⟨wo, rfl⟩ : ∃ x, x = wr := ⟨_, rfl⟩
  by_cases hltq : q < xs.length
  ·have hkl : q < l.length := by omega
   have hp := (hx.below hbo).get (List.getElem?_eq_getElem hltq) (List.getElem?_eq_getElem hkl)
   obtain ⟨hwL, hwR⟩ := HWL.out _ (List.getElem_mem hkl)
   have HTT := Lib.hid (List.take_succ_eq_append_getElem hkl)
   obtain ⟨bq, oq, rfl, hbq, e0, e1, e2, e3⟩ := (hr.below hbo).pan (List.getElem?_eq_getElem hltq)
   obtain ⟨p, hpe⟩ : ∃ p, l[q] = p := ⟨_, rfl⟩
   rw [hpe] at hp hwL hwR HTT; obtain ⟨x, hxe⟩ : ∃ x, xs[q] = x := ⟨_, rfl⟩
   rw [hxe] at hp e0 e1 e2 e3; have hyl := hys.len
   have hyl2 : ys.length = q := by rw [hyl, List.length_take]; omega
   have hylo : ys.length ≤ 100000 := by omega
   clear hyl hyl2 hpe hxe; obtain ⟨nm, wd, L, R⟩ := p; have hpn := hp.nm
   have hpw := hp.wd
   obtain ⟨AL, cL, hvL, _, _, rL⟩ := hp.left; obtain ⟨AR, cR, hvR, _, _, rR⟩ := hp.right; simp only at hpn hpw hvL hvR rL rR hwL hwR
   rw [hpn] at e0; rw [hpw] at e1; rw [hvL] at e2; rw [hvR] at e3; simp only [sV] at e0; clear hp hpn hpw hvL hvR; have hK1 := (Blk.new wo 86 #[.string ⟨nm.toArray⟩, .int .i64 wd, .slice AL L.length cL, .slice AR R.length cR]).alloc (.cells #[.string ⟨nm.toArray⟩, .int .i64 wd, .slice none 0 0, .slice none 0 0] 97)
   have hX1 := Blk.new1 wo (.cells #[.string ⟨nm.toArray⟩, .int .i64 wd, .slice AL L.length cL, .slice AR R.length cR] 86) 97 #[.string ⟨nm.toArray⟩, .int .i64 wd, .slice none 0 0, .slice none 0 0]
   go_wp2_with fail; obtain ⟨w1, hw1⟩ : ∃ X, (wo.alloc (.cells #[.string ⟨nm.toArray⟩, .int .i64 wd, .slice AL L.length cL, .slice AR R.length cR] 86)).alloc (.cells #[.string ⟨nm.toArray⟩, .int .i64 wd, .slice none 0 0, .slice none 0 0] 97) = X := ⟨_, rfl⟩
   have hb1 : Below wo.heap.size wo w1 := by rw [← hw1]; exact Z04 (Z04 Z03 _) _
   have hs1 : wo.heap.size + 2 ≤ w1.heap.size := by rw [← hw1]; simp
   rw [hw1] at hK1 hX1 ⊢; clear hw1; go_loopw [25] (fun i wr => ∃ (k : Nat) (v : Value), k ≤ L.length ∧ i = .int .i64 k ∧ Blk wr wo.heap.size 86 #[.string ⟨nm.toArray⟩, .int .i64 wd, .slice AL L.length cL, .slice AR R.length cR] ∧ Blk wr (wo.heap.size + 1) 97 #[.string ⟨nm.toArray⟩, .int .i64 wd, v, .slice none 0 0] ∧ Own ec 3 (wo.heap.size + 2) 133 wr v (L.take k) ∧ Below wo.heap.size wo wr ∧ wo.heap.size + 2 ≤ wr.heap.size) (fun i _ => L.length - (intOf i).toNat)
   case atStart => exact ⟨0, .slice none 0 0, Nat.zero_le _, rfl, hK1, hX1, Own.nil_, hb1, hs1⟩
   case round =>
    obtain ⟨k, v, hk, rfl, hK, hX, hO, hbw, hsz⟩ := hrel; obtain ⟨wi, rfl⟩ : ∃ x, x = wr := ⟨_, rfl⟩
    by_cases hlt : k < L.length
    ·obtain ⟨b, off, rfl, hb, e0, e1, e2⟩ := (rL.below hbw).edge hlt
     have HT := Lib.hid (List.take_succ_eq_append_getElem hlt)
     obtain ⟨⟨s, t, o⟩, hx⟩ : ∃ z, L[k] = z := ⟨_, rfl⟩
     rw [hx] at e0 e1 e2 HT; simp only at e0 e1 e2
     obtain ⟨T, hT⟩ : ∃ T, L.take k = T := ⟨_, rfl⟩
     have hTl : T.length ≤ 100000 := by rw [← hT, List.length_take]; omega
     rw [hT] at hO HT; clear hx hT; obtain ⟨Ao, co, rfl⟩ := hO.shape; have fX := hX.facts
     have hu := Sl.oneG (enc := ec) (sz := 3) (wi.alloc (.cells #[.string ⟨s.toArray⟩, .int .i64 t, .bool o] 132)) 133 (s, t, o) #[.string ⟨s.toArray⟩, .int .i64 t, .bool o] rfl
     rw [World.size_alloc] at hu; have hal : Below wi.heap.size wi ((wi.alloc (.cells #[.string ⟨s.toArray⟩, .int .i64 t, .bool o] 132)).alloc (.cells #[.string ⟨s.toArray⟩, .int .i64 t, .bool o] 133)) := Z04 (Z04 Z03 _) _
     have hal2 := hal.size
     have hOa := (hO.alloc (.cells #[.string ⟨s.toArray⟩, .int .i64 t, .bool o] 132)).alloc (.cells #[.string ⟨s.toArray⟩, .int .i64 t, .bool o] 133)
     have hXa := (hX.alloc (.cells #[.string ⟨s.toArray⟩, .int .i64 t, .bool o] 132)).alloc (.cells #[.string ⟨s.toArray⟩, .int .i64 t, .bool o] 133)
     go_wp2_with (at_builtin; refine Z3y rfl Z8o Z8i Z8l _ _ rfl (wo.heap.size + 2) _ _ _ [(s, t, o)] rfl rfl hOa hu (by simp [maxLen]; omega) (by simp; omega) (by omega) ?_; intro v3 w3 hu3 hgr3; obtain ⟨A3, c3, rfl⟩ := hu3.shape; rw [show (T ++ [(s, t, o)]).length = T.length + 1 by simp] at hu3; have hX3 := hXa.grown hgr3 (hOa.ne_blk hXa (by decide)); have f3 := hX3.facts)
     have hz3 := hgr3.size
     have hK3 := ((hK.below hal).grown hgr3 (hOa.ne_blk (hK.below hal) (by decide))).setA (g' := wo.heap.size + 1) (i := 2) (u := .slice A3 (T.length + 1) c3) (by omega)
     have hX4 := hX3.set_ 2 (.slice A3 (T.length + 1) c3)
     have hu4 := hu3.set (p := ⟨wo.heap.size + 1, 2, none⟩) (Ne.symm (hu3.ne_blk hX3 (by decide))) (.slice A3 (T.length + 1) c3)
     have hb3 : Below wo.heap.size wo (w3.setCell ⟨wo.heap.size + 1, 2, none⟩ (.slice A3 (T.length + 1) c3)) := Zne (Z09 hgr3 (Z08 hal hbw) (fun j e => by have := (hO.lt j e).1; omega)) (by omega)
     have hz4 : w3.heap.size ≤ (w3.setCell ⟨wo.heap.size + 1, 2, none⟩ (.slice A3 (T.length + 1) c3)).heap.size := by simp [World.setCell]
     go_wp2; go_roundw; case rel => exact ⟨k + 1, .slice A3 (T.length + 1) c3, by omega, by go_num, hK3, hX4, by rw [HT.out]; exact hu4, hb3, by omega⟩
     case measure => simp [intOf]; omega
    ·obtain rfl : k = L.length := by omega
     rw [List.take_length] at hO; obtain ⟨vl, rfl⟩ : ∃ x, x = v := ⟨_, rfl⟩
     obtain ⟨nr, hnr0⟩ : ∃ n, wi.heap.size = n := ⟨_, rfl⟩
     have hvlt : ∀ j, vl.ownBlock = some j → j < nr := fun j h => by rw [← hnr0]; exact (hO.lt j h).2
     have hvl := hO
     have hK1 := hK
     have hX1 := hX
     have hb1 := hbw
     have hs1 := hsz
     have fK := hK.facts
     clear hO hK hX; go_wp2; subst hnr0; obtain ⟨nr, hnr0⟩ : ∃ n, wi.heap.size = n := ⟨_, rfl⟩
     rw [hnr0] at hvlt; go_loopw [39] (fun i wr => ∃ (k : Nat) (v : Value), k ≤ R.length ∧ i = .int .i64 k ∧ Blk wr wo.heap.size 86 #[.string ⟨nm.toArray⟩, .int .i64 wd, .slice AL L.length cL, .slice AR R.length cR] ∧ Blk wr (wo.heap.size + 1) 97 #[.string ⟨nm.toArray⟩, .int .i64 wd, vl, v] ∧ Own ec 3 nr 133 wr v (R.take k) ∧ Below wo.heap.size wo wr ∧ wo.heap.size + 2 ≤ wr.heap.size ∧ Own ec 3 (wo.heap.size + 2) 133 wr vl L ∧ nr ≤ wr.heap.size) (fun i _ => R.length - (intOf i).toNat)
     case atStart => exact ⟨0, .slice none 0 0, Nat.zero_le _, rfl, hK1, hX1, Own.nil_, hb1, hs1, hvl, by omega⟩
     case round =>
      obtain ⟨k, v, hk, rfl, hK, hX, hO, hbw, hsz, hvo, hnr⟩ := hrel; obtain ⟨wi, rfl⟩ : ∃ x, x = wr := ⟨_, rfl⟩
      by_cases hlt : k < R.length
      ·obtain ⟨b, off, rfl, hb, e0, e1, e2⟩ := (rR.below hbw).edge hlt
       have HT := Lib.hid (List.take_succ_eq_append_getElem hlt)
       obtain ⟨⟨s, t, o⟩, hx⟩ : ∃ z, R[k] = z := ⟨_, rfl⟩
       rw [hx] at e0 e1 e2 HT; simp only at e0 e1 e2
       obtain ⟨T, hT⟩ : ∃ T, R.take k = T := ⟨_, rfl⟩
       have hTl : T.length ≤ 100000 := by rw [← hT, List.length_take]; omega
       rw [hT] at hO HT; clear hx hT; obtain ⟨Ao, co, rfl⟩ := hO.shape; have fX := hX.facts
       have hu := Sl.oneG (enc := ec) (sz := 3) (wi.alloc (.cells #[.string ⟨s.toArray⟩, .int .i64 t, .bool o] 132)) 133 (s, t, o) #[.string ⟨s.toArray⟩, .int .i64 t, .bool o] rfl
       rw [World.size_alloc] at hu; have hal : Below wi.heap.size wi ((wi.alloc (.cells #[.string ⟨s.toArray⟩, .int .i64 t, .bool o] 132)).alloc (.cells #[.string ⟨s.toArray⟩, .int .i64 t, .bool o] 133)) := Z04 (Z04 Z03 _) _
       have hal2 := hal.size
       have hOa := (hO.alloc (.cells #[.string ⟨s.toArray⟩, .int .i64 t, .bool o] 132)).alloc (.cells #[.string ⟨s.toArray⟩, .int .i64 t, .bool o] 133)
       have hXa := (hX.alloc (.cells #[.string ⟨s.toArray⟩, .int .i64 t, .bool o] 132)).alloc (.cells #[.string ⟨s.toArray⟩, .int .i64 t, .bool o] 133)
       go_wp2_with (at_builtin; refine Z3y rfl Z8o Z8i Z8l _ _ rfl nr _ _ _ [(s, t, o)] rfl rfl hOa hu (by simp [maxLen]; omega) (by simp; omega) (by omega) ?_; intro v3 w3 hu3 hgr3; obtain ⟨A3, c3, rfl⟩ := hu3.shape; rw [show (T ++ [(s, t, o)]).length = T.length + 1 by simp] at hu3; have hX3 := hXa.grown hgr3 (hOa.ne_blk hXa (by decide)); have f3 := hX3.facts)
       have hz3 := hgr3.size
       have hK3 := ((hK.below hal).grown hgr3 (hOa.ne_blk (hK.below hal) (by decide))).setA (g' := wo.heap.size + 1) (i := 3) (u := .slice A3 (T.length + 1) c3) (by omega)
       have hX4 := hX3.set_ 3 (.slice A3 (T.length + 1) c3)
       have hu4 := hu3.set (p := ⟨wo.heap.size + 1, 3, none⟩) (Ne.symm (hu3.ne_blk hX3 (by decide))) (.slice A3 (T.length + 1) c3)
       have hb3 : Below wo.heap.size wo (w3.setCell ⟨wo.heap.size + 1, 3, none⟩ (.slice A3 (T.length + 1) c3)) := Zne (Z09 hgr3 (Z08 hal hbw) (fun j e => by have := (hO.lt j e).1; omega)) (by omega)
       have hz4 : w3.heap.size ≤ (w3.setCell ⟨wo.heap.size + 1, 3, none⟩ (.slice A3 (T.length + 1) c3)).heap.size := by simp [World.setCell]
       have hvo3 := ((hvo.below hal).kept hgr3 (by
        cases h : vl.ownBlock with
        | none => exact .inl rfl
        | some j => exact .inr (fun e => by have h1 := hvlt j h; have h2 := (hO.lt j e.symm).1; omega))).set (p := ⟨wo.heap.size + 1, 3, none⟩) (fun e => by have h1 := (hvo.lt _ e).1; simp only at h1; omega) (.slice A3 (T.length + 1) c3)
       go_wp2; go_roundw; case rel => exact ⟨k + 1, .slice A3 (T.length + 1) c3, by omega, by go_num, hK3, hX4, by rw [HT.out]; exact hu4, hb3, by omega, hvo3, by omega⟩
       case measure => simp [intOf]; omega
      ·obtain rfl : k = R.length := by omega
       rw [List.take_length] at hO; obtain ⟨A8, c8, rfl⟩ := hO.shape; obtain ⟨A9, c9, rfl⟩ := hvo.shape; have fX := hX.facts
       have hOo := hOut.below hbw
       have hyo := hys.below hbw
       have o9 := hvo
       have o8 := hO
       have hOa := hOo.alloc (.cells #[.string ⟨nm.toArray⟩, .int .i64 wd, .slice A9 L.length c9, .slice A8 R.length c8] 97)
       have oLa := o9.alloc (.cells #[.string ⟨nm.toArray⟩, .int .i64 wd, .slice A9 L.length c9, .slice A8 R.length c8] 97)
       have oRa := o8.alloc (.cells #[.string ⟨nm.toArray⟩, .int .i64 wd, .slice A9 L.length c9, .slice A8 R.length c8] 97)
       have hba : Below w.heap.size w (wi.alloc (.cells #[.string ⟨nm.toArray⟩, .int .i64 wd, .slice A9 L.length c9, .slice A8 R.length c8] 97)) := Z04 (Z08 hbw hbo) _
       have hysa := hyo.below (show Below wi.heap.size wi (wi.alloc (.cells #[.string ⟨nm.toArray⟩, .int .i64 wd, .slice A9 L.length c9, .slice A8 R.length c8] 97)) from Z04 Z03 _)
       have hua : Sl pnc 4 (wi.alloc (.cells #[.string ⟨nm.toArray⟩, .int .i64 wd, .slice A9 L.length c9, .slice A8 R.length c8] 97)) (.slice (some ⟨wi.heap.size, 0, none⟩) 1 1) [(nm, wd, (A9, L.length, c9), (A8, R.length, c8))] := Sl.oneG wi _ (nm, wd, (A9, L.length, c9), (A8, R.length, c8)) _ rfl
       have hza := hba.size
       have hzo := hbo.size
       go_wp2_with (at_builtin; refine Z3y rfl Zgh Zgf Zgg _ _ rfl w.heap.size _ _ ys [(nm, wd, (A9, L.length, c9), (A8, R.length, c8))] rfl rfl hOa hua (by simp [maxLen]; omega) (by simp; omega) hza ?_; intro v9 w9 hO9 hg9)
       have hb9 : Below w.heap.size w w9 := Z09 hg9 hba (fun j e => (hOa.lt j e).1)
       have hy9 := hysa.to (fun _ _ ho => ho.kept hg9 (Own.ne_own ho hOa (by decide)))
       have oL9 := oLa.kept hg9 (Own.ne_own oLa hOa (by decide))
       have oR9 := oRa.kept hg9 (Own.ne_own oRa hOa (by decide))
       have hy10 := Zr7.snoc (x := (nm, wd, (A9, L.length, c9), (A8, R.length, c8))) (p := (nm, wd, L, R)) ⟨rfl, rfl, oL9.base_mono (by omega), oR9.base_mono (by omega)⟩ hy9
       go_wp2; go_roundw; case rel => exact ⟨q + 1, _, by omega, by go_num, hO9, by rw [HTT.out]; exact hy10, hb9⟩
       case measure => simp [intOf]; omega
  ·obtain rfl : q = xs.length := by omega
   rw [List.take_of_length_le (by omega)] at hys
   go_wp2; go_ret; exact ⟨_, rfl, ⟨ys, hOut.rd Zgf, hys.at_⟩, hbo⟩
theorem Zra (d : Nat) (n a n' a' : Int) (t t' : Bool) (w : World) : (Op.equalIn (d + 2) 101 (.agg #[.int .i64 n, .bool t, .int .i64 a]) (.agg #[.int .i64 n', .bool t', .int .i64 a'])).run Tryz.prog w = .ok (decide (n = n') && (decide (t = t') && decide (a = a'))) w := by
 rw [run_equalIn_struct w (d + 1) 101 _ _ (by kernel_rfl) (by kernel_rfl)]
 by_cases h1 : n = n' <;> by_cases h2 : t = t' <;> by_cases h3 : a = a' <;> simp [go_sem, h1, h2, h3]
theorem Zrb (n a n' a' : Int) (t t' : Bool) (w : World) : (binOp .neq 101 (.agg #[.int .i64 n, .bool t, .int .i64 a]) (.agg #[.int .i64 n', .bool t', .int .i64 a'])).run Tryz.prog w = .ok (.bool (!(decide (n = n') && (decide (t = t') && decide (a = a'))))) w := by
 simp only [binOp]
 simp [Op.equal, Op.maxDepth, Zra 9998]
def samP : List Plc → List Plc → Bool
 | [], [] => true
 | a :: r, b :: s => (decide (a.1 = b.1) && (decide (a.2.1 = b.2.1) && decide (a.2.2 = b.2.2))) && samP r s
 | _, _ => false
theorem Zrc : ∀ a b : List Plc, samP a b = decide (a = b)
 | [], [] => rfl
 | [], b :: s => by simp [samP]
 | a :: r, [] => by simp [samP]
 | a :: r, b :: s => by
  obtain ⟨a0, a1, a2⟩ := a; obtain ⟨b0, b1, b2⟩ := b; rw [samP, Zrc r s]; by_cases h0 : a0 = b0 <;> by_cases h1 : a1 = b1 <;> by_cases h2 : a2 = b2 <;> by_cases h3 : r = s <;> simp [h0, h1, h2, h3]
theorem Zrd (a b : List Plc) (A B : Option Addr) (c d : Nat) (w : World) (ha : Rd plc 3 w A a) (hb : Rd plc 3 w B b) (hal : a.length ≤ 100000) (_hbl : b.length ≤ 100000) :
  Calls Tryz.prog 17 #[.slice A a.length c, .slice B b.length d] w (RV w (.bool (decide (a = b)))) := by
 by_cases hl : a.length = b.length
 ·have HS : Hid (decide (a = b) = samP (a.drop 0) (b.drop 0)) := (Zrc a b).symm
  obtain ⟨n, hn⟩ : ∃ n, b.length = n := ⟨_, rfl⟩
  rw [hn] at hl ⊢; rw [hl]; have HA : Hid (a.length = n) := hl
  have HB : Hid (b.length = n) := hn
  have hnl : n ≤ 100000 := by omega
  clear hl hn hal; go_enter Tryz.func17, Tryz.ntmps17
  go_wp2; go_loopw [5] (fun i wr => ∃ k : Nat, k ≤ n ∧ i = .int .i64 k ∧ Hid (decide (a = b) = samP (a.drop k) (b.drop k)) ∧ Below w.heap.size w wr) (fun i _ => n - (intOf i).toNat)
  case atStart => exact ⟨0, Nat.zero_le _, rfl, HS, Z03⟩
  case round =>
   obtain ⟨k, hk, rfl, HK, hbw⟩ := hrel; by_cases hlt : k < n
   ·have hka : k < a.length := by rw [HA.out]; exact hlt
    have hkb : k < b.length := by rw [HB.out]; exact hlt
    obtain ⟨b1, o1, rfl, hb1, e0, e1, e2⟩ := (ha.below hbw).plc hka
    obtain ⟨b2, o2, rfl, hb2, f0, f1, f2⟩ := (hb.below hbw).plc hkb
    have HK2 : Hid (decide (a = b) = ((decide (a[k].1 = b[k].1) && (decide (a[k].2.1 = b[k].2.1) && decide (a[k].2.2 = b[k].2.2))) && samP (a.drop (k + 1)) (b.drop (k + 1)))) := by
     unfold Hid; rw [HK.out, List.drop_eq_getElem_cons hka, List.drop_eq_getElem_cons hkb, samP]
    obtain ⟨⟨x0, x1, x2⟩, hx⟩ : ∃ z, a[k] = z := ⟨_, rfl⟩
    obtain ⟨⟨y0, y1, y2⟩, hy⟩ : ∃ z, b[k] = z := ⟨_, rfl⟩
    rw [hx] at e0 e1 e2 HK2; rw [hy] at f0 f1 f2 HK2; simp only at e0 e1 e2 f0 f1 f2 HK2
    have hN := Zrb x0 x2 y0 y2 x1 y1
    obtain ⟨q, hq⟩ : ∃ q, (decide (x0 = y0) && (decide (x1 = y1) && decide (x2 = y2))) = q := ⟨_, rfl⟩
    rw [hq] at hN HK2; clear hx hy hq HK hka hkb; go_upto_region 6 with fail; refine Z0z [0, 1, 2, 3, 4, 5, 6, 7, 8] [] [] (by kernel_rfl) (by kernel_rfl) (fun d _ _ _ _ h => by cases d <;> exact h) ?_
    simp only [List.map_cons, List.map_nil, List.getD_cons_zero, List.getD_cons_succ]; repeat (go_big_quiet_step (fail))
    refine wpQuiet_nil ?_; refine Z10 ?_; cases q
    ·have HE : Hid (decide (a = b) = false) := HK2.out
     go_wp2; go_ret; exact ⟨by rw [HE.out]; rfl, by (repeat first|exact J0|assumption|(apply J1;assumption)|apply J2|apply J3|apply J4)⟩
    ·have HE : Hid (decide (a = b) = samP (a.drop (k + 1)) (b.drop (k + 1))) := HK2.out
     go_wp2; go_roundw; case rel => exact ⟨k + 1, by omega, by go_num, HE, by (repeat first|exact J0|assumption|(apply J1;assumption)|apply J2|apply J3|apply J4)⟩
     case measure => simp [intOf]; omega
   ·obtain rfl : k = n := by omega
    have HE : Hid (decide (a = b) = true) := by
     unfold Hid; rw [HK.out, List.drop_of_length_le (by rw [HA.out]; exact Nat.le_refl _), List.drop_of_length_le (by rw [HB.out]; exact Nat.le_refl _)]
     rfl
    go_wp2; go_ret; exact ⟨by rw [HE.out]; rfl, hbw⟩
 ·have HE : Hid (decide (a = b) = false) := decide_eq_false fun e => hl (by rw [e])
  have t1 : ((a.length : Int) == (b.length : Int)) = false := by simp; omega
  clear hl; go_enter Tryz.func17, Tryz.ntmps17
  go_wp2; go_ret; exact ⟨by rw [HE.out]; rfl, by (repeat first|exact J0|assumption|(apply J1;assumption)|apply J2|apply J3|apply J4)⟩
def RG5 {α : Type} (enc : α → List Value) (sz : Nat) (e : TypeId) (w : World) (l : List α) (en : Ending) (w' : World) : Prop := ∃ v, en = .returned v ∧ Own enc sz w.heap.size e w' v l ∧ Below w.heap.size w w'
theorem Zre : Elem Tryz.prog 45 101 3 24 := ⟨by kernel_rfl, by kernel_rfl, by decide⟩
theorem Zrf (l : List Plc) (A : Option Addr) (c : Nat) (w : World) (h : Rd plc 3 w A l) (hl : l.length ≤ 100000) : Calls Tryz.prog 18 #[.slice A l.length c] w (RG5 plc 3 101 w l) := by
 go_enter Tryz.func18, Tryz.ntmps18
 go_wp2
 go_loopw [3, 7] (fun o i wr => ∃ k : Nat, k ≤ l.length ∧ i = .int .i64 k ∧ Own plc 3 w.heap.size 101 wr o (l.take k) ∧ Below w.heap.size w wr) (fun _ i _ => l.length - (intOf i).toNat)
 case atStart => exact ⟨0, Nat.zero_le _, rfl, Own.nil_, Z03⟩
 case round =>
  obtain ⟨k, hk, rfl, hO, hb⟩ := hrel; obtain ⟨wo, rfl⟩ : ∃ x, x = wr := ⟨_, rfl⟩
  by_cases hlt : k < l.length
  ·obtain ⟨b, off, rfl, hbk, e0, e1, e2⟩ := (h.below hb).plc hlt
   have HT := Lib.hid (List.take_succ_eq_append_getElem hlt)
   have hlk : (l.take k).length ≤ 100000 := by simp; omega
   obtain ⟨P, hP⟩ : ∃ z, l.take k = z := ⟨_, rfl⟩
   rw [hP] at hO HT hlk; obtain ⟨⟨x0, x1, x2⟩, hx⟩ : ∃ z, l[k] = z := ⟨_, rfl⟩
   rw [hx] at e0 e1 e2 HT; simp only at e0 e1 e2
   have hs : w.heap.size ≤ wo.heap.size := hb.size
   have hu := Sl.oneG (enc := plc) (sz := 3) wo 101 (x0, x1, x2) #[.int .i64 x0, .bool x1, .int .i64 x2] rfl
   clear hP hx; go_wp2_with (at_builtin; refine Z3y rfl Zre Zj7 Zj9 _ _ rfl w.heap.size _ _ _ [(x0, x1, x2)] rfl rfl (hO.alloc _) hu (by simp [maxLen]; omega) (by simp; omega) (by simp; omega) ?_; intro v9 w9 hO9 hg9)
   have hb9 : Below w.heap.size w w9 := Z09 hg9 (Z04 hb _) (fun j e => (hO.lt j e).1)
   go_wp2; go_roundw; case rel => exact ⟨k + 1, by omega, by go_num, by rw [HT.out]; exact hO9, hb9⟩
   case measure => simp [intOf]; omega
  ·obtain rfl : k = l.length := by omega
   rw [List.take_length] at hO; go_wp2; go_ret; exact ⟨_, rfl, hO, hb⟩
theorem rcheckBale_any (b : Bal) (hnm : b.1.length ≤ 1000000) (w : World) : Calls Tryz.prog 25 #[.agg #[sV b.1, .int .i64 b.2.1, .int .i64 b.2.2]] w (RV w (.int .i64 (balE b))) := by
 have hcn := fun W => Z6m b.1 hnm W
 have HB : Hid (balE b = Z17 [Z15 (!Z6k b.1) 8, Z16 b.2.1 1 256, Z16 b.2.2 1 2000]) := rfl
 obtain ⟨nm, rw_, ln⟩ := b
 simp only at hcn HB ⊢
 unfold sV at hcn ⊢
 obtain ⟨bn, hbn⟩ : ∃ b, Z6k nm = b := ⟨_, rfl⟩
 rw [hbn] at hcn HB
 clear hbn
 have hP := Blk.new w 48 #[.string ⟨nm.toArray⟩, .int .i64 rw_, .int .i64 ln]
 have fhP := hP.facts
 cases bn
 ·have HE : Hid (balE (nm, rw_, ln) = 8) := by unfold Hid; rw [HB.out]; rfl
  go_enter Tryz.func25, Tryz.ntmps25
  go_wp2_with fail; refine (hcn _).mono ?_
  rintro e w2 ⟨rfl, hb2⟩; go_wp2; go_ret; exact ⟨by rw [HE.out]; rfl, by (repeat first|exact J0|assumption|(apply J1;assumption)|apply J2|apply J3|apply J4)⟩
 ·have HE : Hid (balE (nm, rw_, ln) = Z17 [Z16 rw_ 1 256, Z16 ln 1 2000]) := by unfold Hid; rw [HB.out]; simp [Z17, Z15]
  have hf : ∀ A c' W, Rd ic 1 W A [Z16 rw_ 1 256, Z16 ln 1 2000] → Calls Tryz.prog 80 #[.slice A 2 c'] W (RV W (.int .i64 (balE (nm, rw_, ln)))) := fun A c' W hr => by
   rw [HE.out]; exact Z59 [Z16 rw_ 1 256, Z16 ln 1 2000] A c' W (by simp [maxLen]) hr
  obtain ⟨E, hE⟩ : ∃ E, balE (nm, rw_, ln) = E := ⟨_, rfl⟩
  rw [hE] at hf ⊢; clear HB HE hE; go_enter Tryz.func25, Tryz.ntmps25
  go_upto_region 1 with fail; obtain ⟨w1, hw1⟩ : ∃ X, w.alloc (.cells #[.string ⟨nm.toArray⟩, .int .i64 rw_, .int .i64 ln] 48) = X := ⟨_, rfl⟩
  have hb1 : Below w.heap.size w w1 := by rw [← hw1]; exact Z04 Z03 _
  rw [hw1] at hP ⊢; clear hw1 fhP; have fhP := hP.facts
  go_wp2_with fail; refine (hcn _).mono ?_
  rintro e w2 ⟨rfl, hb2⟩; have hP2 := hP.below hb2
  have fP2 := hP2.facts
  go_upto_region 3 with fail; refine Z0z [0, 1, 3, 4] [(2, false)] [5, 6, 7, 8] (by kernel_rfl) (by kernel_rfl) (fun d _ _ _ _ h => by cases d <;> exact h) ?_
  simp only [List.map_cons, List.map_nil, List.getD_cons_zero, List.getD_cons_succ]; repeat (go_big_quiet_step (fail))
  refine wpQuiet_nil ?_; refine Z11 rfl (fun K hK => ?_); go_simp; refine (Z5a _ 1 256 _).mono ?_
  rintro e w3 ⟨rfl, hb3⟩; refine hK _ _ (by (repeat first|exact J0|assumption|(apply J1;assumption)|apply J2|apply J3|apply J4)) ?_
  clear hK K; have hP2_w3 := hP2.below (show Below _ _ w3 by (repeat first|exact J0|assumption|(apply J1;assumption)|apply J2|apply J3|apply J4))
  have fhP2_w3 := hP2_w3.facts
  refine Z10 ?_; go_wp2_with fail; refine (Z5a _ 1 2000 _).mono ?_
  rintro e w4 ⟨rfl, hb4⟩; go_wp2_with fail; go_must (refine (hf _ _ _ (Rd.ints2 (by simp) (by go_simp) (by go_simp))).mono ?_)
  rintro e w5 ⟨rfl, hb5⟩; go_wp2; go_ret; exact ⟨rfl, by (repeat first|exact J0|assumption|(apply J1;assumption)|apply J2|apply J3|apply J4)⟩
end Go.Proofs.YtpcgeihemkhkjaaGreatDoor
