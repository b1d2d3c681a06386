/- The place behind a plan, walked. Conditions: the pieces have no error. -/
import Derived.Test.YtpcgeihemkhkjaaGreatDoorS25
import Derived.Test.YtpcgeihemkhkjaaGreatDoorS26
import Derived.Test.YtpcgeihemkhkjaaGreatDoorS24
namespace Go.Proofs.YtpcgeihemkhkjaaGreatDoor
open Go.RowKit Go.ChangeMaps
set_option maxHeartbeats 4000000
set_option maxRecDepth 100000
attribute [local go_sem] Oper.semAt_some
def wyV (x : WyV) : Value := .agg #[slV x.1, .int .i64 x.2.1, .int .i64 x.2.2.1, slV x.2.2.2]
def plV (x : Plc) : Value := .agg #[.int .i64 x.1, .bool x.2.1, .int .i64 x.2.2]
theorem Zla (x : PcV) (n : Int) (t : Bool) (a : Int) (w : World) : Calls Tryz.prog 74 #[.agg #[slV x.1.1, .int .i64 x.1.2.1, .int .i64 x.1.2.2.1, slV x.1.2.2.2, slV x.2.1, .int .i64 x.2.2.1, .int .i64 x.2.2.2.1, slV x.2.2.2.2], .agg #[.int .i64 n, .bool t, .int .i64 a]] w (RV w (wyV (if t then x.2 else x.1))) := by
 obtain ⟨⟨⟨p0, p1, p2⟩, p3, p4, ⟨p5, p6, p7⟩⟩, ⟨⟨q0, q1, q2⟩, q3, q4, ⟨q5, q6, q7⟩⟩⟩ := x
 simp only [slV]
 have hP := (Blk.new w 123 #[.slice p0 p1 p2, .int .i64 p3, .int .i64 p4, .slice p5 p6 p7, .slice q0 q1 q2, .int .i64 q3, .int .i64 q4, .slice q5 q6 q7]).alloc (.cells #[.int .i64 n, .bool t, .int .i64 a] 100) |>.alloc (.cells #[.slice none 0 0, .int .i64 0, .int .i64 0, .slice none 0 0] 121)
 have hX := (Blk.new1 w (.cells #[.slice p0 p1 p2, .int .i64 p3, .int .i64 p4, .slice p5 p6 p7, .slice q0 q1 q2, .int .i64 q3, .int .i64 q4, .slice q5 q6 q7] 123) 100 #[.int .i64 n, .bool t, .int .i64 a]).alloc (.cells #[.slice none 0 0, .int .i64 0, .int .i64 0, .slice none 0 0] 121)
 have hZ := Blk.new2 w (.cells #[.slice p0 p1 p2, .int .i64 p3, .int .i64 p4, .slice p5 p6 p7, .slice q0 q1 q2, .int .i64 q3, .int .i64 q4, .slice q5 q6 q7] 123) (.cells #[.int .i64 n, .bool t, .int .i64 a] 100) 121 #[.slice none 0 0, .int .i64 0, .int .i64 0, .slice none 0 0]
 have hb1 : Below w.heap.size w (((w.alloc (.cells #[.slice p0 p1 p2, .int .i64 p3, .int .i64 p4, .slice p5 p6 p7, .slice q0 q1 q2, .int .i64 q3, .int .i64 q4, .slice q5 q6 q7] 123)).alloc (.cells #[.int .i64 n, .bool t, .int .i64 a] 100)).alloc (.cells #[.slice none 0 0, .int .i64 0, .int .i64 0, .slice none 0 0] 121)) := Z04 (Z04 (Z04 Z03 _) _) _
 have fP := hP.facts
 have fX := hX.facts
 cases t
 ·go_enter Tryz.func74, Tryz.ntmps74
  go_wp2_with (refine Z4n hZ rfl _ _ _ rfl rfl rfl (by rfl) (by kernel_rfl) (by kernel_rfl) ?_; intro w12 hZ12 hc12; have f12 := hZ12.facts)
  refine bodyPost_ret (v := .agg #[.slice p0 p1 p2, .int .i64 p3, .int .i64 p4, .slice p5 p6 p7]) (by simp [results, Tryz.results74, go_sem, f12]) rfl ?_
  exact ⟨rfl, Z9f hb1 hc12 (by omega)⟩
 ·go_enter Tryz.func74, Tryz.ntmps74
  go_wp2_with (refine Z4n hZ rfl _ _ _ rfl rfl rfl (by rfl) (by kernel_rfl) (by kernel_rfl) ?_; intro w12 hZ12 hc12; have f12 := hZ12.facts)
  refine bodyPost_ret (v := .agg #[.slice q0 q1 q2, .int .i64 q3, .int .i64 q4, .slice q5 q6 q7]) (by simp [results, Tryz.results74, go_sem, f12]) rfl ?_
  exact ⟨rfl, Z9f hb1 hc12 (by omega)⟩
structure Zlb (p : Pan) : Prop where
 near : ∀ s ∈ Z6y p, Zaz s
 pos : 0 < (Z6y p).length
 few : (Z6y p).length ≤ 256
 lo : -4096 ≤ (Zin p).1
 mid : (Zin p).1 + 2 ≤ (Zin p).2
 hi : (Zin p).2 ≤ 4096
theorem Zlc {p : Pan} (h : panE p = 0) : Zlb p := by
 have ok := Zaw h
 have e := Zl5 ok
 have l := Zb3 p
 have hh := ok.high
 exact ⟨Zb2 ok, by omega, by omega, e.1, e.2.1, e.2.2⟩
theorem Zjm.way {p : Pan} (h : Zjm p) (t : Bool) : Zlb (if t then trnP p else p) := by
 cases t
 ·exact Zlc h.er
 ·exact Zlc h.te
theorem PcAt.way {w : World} {y : PcV} {p : Pan} (h : PcAt w y p) (t : Bool) : WyAt w (if t then y.2 else y.1) (if t then trnP p else p) := by
 cases t
 ·exact h.up
 ·exact h.dn
theorem Zld {l : List Pan} {k : Nat} (hk : k < l.length) (t : Bool) (a : Int) : pcP l ((k : Int), t, a) = if t then trnP l[k] else l[k] := by
 unfold pcP
 simp only [Int.toNat_natCast]
 rw [List.getD_eq_getElem?_getD, List.getElem?_eq_getElem hk]
 rfl
theorem Zle {A B : List Strp} (ha : ∀ s ∈ A, Zaz s) (hb : ∀ s ∈ B, Zaz s) : -200000 ≤ gapB A B ∧ gapB A B ≤ 200003 := by
 have h := Zjs ha hb (minL A B)
 unfold gapB evnI
 split <;> omega
def nxF (l : List Pan) (plan : List Plc) (x : Plc) (k : Nat) : Int := (plan.take k).foldl (fun a o => max a (o.2.2 + gapB (stP l o) (stP l x))) (evnI (-(Zin (pcP l x)).1))
theorem Zlf (l : List Pan) {plan : List Plc} (x : Plc) {k : Nat} (hk : k < plan.length) : nxF l plan x (k + 1) = max (nxF l plan x k) (plan[k].2.2 + gapB (stP l plan[k]) (stP l x)) := by
 unfold nxF
 rw [List.take_succ_eq_append_getElem hk, List.foldl_append]
 rfl
theorem Zlg (l : List Pan) (plan : List Plc) (x : Plc) : nxF l plan x plan.length = Zip l plan x := by
 unfold nxF Zip
 rw [List.take_length]
def Zlh (plan : List Plc) (B : Int) : Prop := ∀ o ∈ plan, -B ≤ o.2.2 ∧ o.2.2 ≤ B
def InL (l : List Pan) (plan : List Plc) : Prop := ∀ o ∈ plan, InP l o
theorem Zli {l : List Pan} (h : PieL l) {o : Plc} (ho : InP l o) : Zlb (pcP l o) := by
 obtain ⟨n, t, a⟩ := o
 unfold InP at ho
 simp only at ho
 obtain ⟨k, rfl⟩ : ∃ k : Nat, n = k := ⟨n.toNat, by omega⟩
 have hk : k < l.length := by omega
 rw [Zld hk]
 exact (h _ (List.getElem_mem hk)).way t
theorem Zlj {l : List Pan} (h : PieL l) {plan : List Plc} {x : Plc} (hx : InP l x) (hi : InL l plan) {B : Int} (hB : 5000 ≤ B) (hn : Zlh plan B) (k : Nat) (hk : k ≤ plan.length) : -5000 ≤ nxF l plan x k ∧ nxF l plan x k ≤ B + 200003 := by
 induction k with
 | zero =>
  have g := Zli h hx
  have h1 := g.lo
  have h2 := g.mid
  have h3 := g.hi
  unfold nxF evnI; simp only [List.take_zero, List.foldl_nil]; omega
 | succ k ih =>
  have h1 := ih (by omega)
  rw [Zlf l x (by omega : k < plan.length)]
  have h2 := hn _ (List.getElem_mem (by omega : k < plan.length))
  have h3 := Zle (Zli h (hi _ (List.getElem_mem (by omega : k < plan.length)))).near (Zli h hx).near
  unfold stP; omega
theorem Zlk {va vp : Value} (l : List Pan) (plan : List Plc) (x : Plc) (w : World) (ha : SlW w va l) (hp : SlL w vp plan) (hk : PieL l) (hx : InP l x) (hi : InL l plan) (hn : Zlh plan 1000000000) (hl : plan.length ≤ 1000) :
  Calls Tryz.prog 63 #[va, vp, plV x] w (RV w (plV (Ziq l plan x))) := by
 obtain ⟨n, t, a⟩ := x
 have hx0 := hx
 unfold InP at hx0
 simp only at hx0
 obtain ⟨kx, rfl⟩ : ∃ k : Nat, n = k := ⟨n.toNat, by omega⟩
 have hkx : kx < l.length := by omega
 have HF := Lib.hid (fun k hk' => Zlj hk hx hi (by decide : (5000 : Int) ≤ 1000000000) hn k hk')
 have HS := Lib.hid (fun k hk' => Zlf l (plan := plan) ((kx : Int), t, a) (k := k) hk')
 have HR : Hid (Ziq l plan ((kx : Int), t, a) = ((kx : Int), t, nxF l plan ((kx : Int), t, a) plan.length)) := by unfold Hid Ziq; rw [Zlg]
 have HZ : Hid (nxF l plan ((kx : Int), t, a) 0 = evnI (-(Zin (pcP l ((kx : Int), t, a))).1)) := by unfold Hid nxF; simp
 have HGX := Lib.hid (Zli hk hx)
 have HGO := Lib.hid (fun o (ho : o ∈ plan) => Zli hk (hi o ho))
 have HI := Lib.hid hi
 have HN := Lib.hid hn
 obtain ⟨PX, hPX⟩ : ∃ P, pcP l ((kx : Int), t, a) = P := ⟨_, rfl⟩
 have HPW := Lib.hid (Zld hkx t a)
 rw [hPX] at HGX HZ HPW
 have HSX : Hid (stP l ((kx : Int), t, a) = Z6y PX) := by unfold Hid stP; rw [hPX]
 obtain ⟨AA, cA, rfl⟩ := ha.shape
 obtain ⟨AP, cP, rfl, hlP, hcP, hrP⟩ := hp
 rw [HR.out]
 unfold plV
 simp only
 clear hx hx0 hi hn hPX HR hk
 have hK5 := (Blk.new w 100 #[.int .i64 kx, .bool t, .int .i64 a]).alloc (.cells #[.int .i64 0, .bool false, .int .i64 0] 100)
 have hK6 := Blk.new1 w (.cells #[.int .i64 kx, .bool t, .int .i64 a] 100) 100 #[.int .i64 0, .bool false, .int .i64 0]
 go_enter Tryz.func63, Tryz.ntmps63
 go_upto_region 1 with fail
 obtain ⟨w1, hw1⟩ : ∃ X, (w.alloc (.cells #[.int .i64 kx, .bool t, .int .i64 a] 100)).alloc (.cells #[.int .i64 0, .bool false, .int .i64 0] 100) = X := ⟨_, rfl⟩
 have hb1 : Below w.heap.size w w1 := by rw [← hw1]; exact Z04 (Z04 Z03 _) _
 rw [hw1] at hK5 hK6 ⊢
 clear hw1
 obtain ⟨bA, oA, cA', y, hv, hbA, hy, e0, e1, e2, e3, e4, e5, e6, e7⟩ := ha.get hkx
 obtain ⟨rfl, rfl⟩ : AA = some ⟨bA, oA, none⟩ ∧ cA = cA' := by simpa using hv
 replace e0 := (hb1.cell (p := ⟨bA, oA + kx * 8, none⟩) hbA).trans e0
 replace e1 := (hb1.cell (p := ⟨bA, oA + kx * 8 + 1, none⟩) hbA).trans e1
 replace e2 := (hb1.cell (p := ⟨bA, oA + kx * 8 + 2, none⟩) hbA).trans e2
 replace e3 := (hb1.cell (p := ⟨bA, oA + kx * 8 + 3, none⟩) hbA).trans e3
 replace e4 := (hb1.cell (p := ⟨bA, oA + kx * 8 + 4, none⟩) hbA).trans e4
 replace e5 := (hb1.cell (p := ⟨bA, oA + kx * 8 + 5, none⟩) hbA).trans e5
 replace e6 := (hb1.cell (p := ⟨bA, oA + kx * 8 + 6, none⟩) hbA).trans e6
 replace e7 := (hb1.cell (p := ⟨bA, oA + kx * 8 + 7, none⟩) hbA).trans e7
 have hbA1 : bA < w1.heap.size := Nat.lt_of_lt_of_le hbA hb1.size
 have hyw := hy.way t
 rw [← HPW.out] at hyw
 have hkat := fun W => Zla y (kx : Int) t a W
 obtain ⟨⟨⟨z0, z1, z2⟩, z3, z4, ⟨z5, z6, z7⟩⟩, hzz⟩ : ∃ z, (if t then y.2 else y.1) = z := ⟨_, rfl⟩
 rw [hzz] at hyw hkat
 obtain ⟨hst, hlo, hhi, hnt⟩ := hyw
 simp only at hlo hhi
 have hz1 := Sl.size_ hst
 simp only at hz1
 subst hz1
 obtain ⟨Az, cz, hez, _, _, hrz⟩ := hst
 simp only [slV, Value.slice.injEq] at hez
 obtain ⟨rfl, -, rfl⟩ := hez
 unfold wyV at hkat
 simp only [slV] at hkat
 have hg1 := HGX.out.lo
 have hg2 := HGX.out.mid
 have hg3 := HGX.out.hi
 rw [← hlo] at hg1 hg2 HZ
 rw [← hhi] at hg2 hg3
 have hz3 : -4096 ≤ z3 ∧ z3 ≤ 4096 := by omega
 obtain ⟨⟨⟨⟨p0, p1, p2⟩, p3, p4, ⟨p5, p6, p7⟩⟩, ⟨⟨q0, q1, q2⟩, q3, q4, ⟨q5, q6, q7⟩⟩⟩, hyy⟩ : ∃ z, y = z := ⟨_, rfl⟩
 rw [hyy] at e0 e1 e2 e3 e4 e5 e6 e7 hkat
 simp only [slV] at e0 e1 e2 e3 e4 e5 e6 e7 hkat
 have fK5 := hK5.facts
 clear hyy hzz hv hlo hhi hg1 hg2 hg3 hnt hy
 go_upto_region 1 with fail
 go_cut [7] from 10 ((fun s7 wx => ∃ g, s7 = .pointer (some ⟨g, 0, none⟩) ∧ Blk wx g 121 #[.slice z0 (Z6y PX).length z2, .int .i64 z3, .int .i64 z4, .slice z5 z6 z7] ∧ w1.heap.size ≤ g ∧ Below w1.heap.size w1 wx))
 case first =>
  refine Z5h [0, 1, 2, 3, 4, 5] (.alt (.br 6 (.alt (.br 7 (.fin) (.stop))) (.br 7 (.alt (.br 6 (.fin) (.stop))) (.stop)))) [8] (by kernel_rfl) (by kernel_rfl) (fun d _ _ _ _ h => by cases d <;> exact h) ?_
  simp only [List.map_cons, List.map_nil, List.getD_cons_zero, List.getD_cons_succ]; repeat (go_big_quiet_step (fail))
  refine wpQuiet_nil ?_; refine Z5j (Z5l rfl rfl ?_ (Z5l rfl rfl ?_ Z5k))
  ·intro K hK
   go_simp; refine (hkat _).mono ?_
   rintro e w2 ⟨rfl, hb2⟩; refine hK _ _ (by (repeat first|exact J0|assumption|(apply J1;assumption)|apply J2|apply J3|apply J4)) ?_
   clear hK K; refine Z5j (Z5l rfl rfl ?_ Z5k); have hS0 := Blk.new (w2) 121 #[.slice none 0 0, .int .i64 0, .int .i64 0, .slice none 0 0]
   intro K hK; go_simp; refine hK _ _ (by (repeat first|exact J0|assumption|(apply J1;assumption)|apply J2|apply J3|apply J4)) ?_
   clear hK K; refine Z5i ?_; have hS1 := hS0.below (show Below _ _ (w2.alloc (.cells #[.slice none 0 0, .int .i64 0, .int .i64 0, .slice none 0 0] 121)) by (repeat first|exact J0|assumption|(apply J1;assumption)|apply J2|apply J3|apply J4))
   go_wp2_with (refine Z4n hS1 rfl _ _ _ rfl rfl rfl (by rfl) (by kernel_rfl) (by kernel_rfl) ?_; intro w7 hS7 hc7)
   have hg7 : w1.heap.size ≤ (w2).heap.size := Below.size (show Below w1.heap.size w1 (w2) by (repeat first|exact J0|assumption|(apply J1;assumption)|apply J2|apply J3|apply J4))
   have hb7 : Below w1.heap.size w1 w7 := Z9f (by (repeat first|exact J0|assumption|(apply J1;assumption)|apply J2|apply J3|apply J4)) hc7 hg7
   go_meet; case rel => exact ⟨((w2).heap.size), rfl, hS7, hg7, hb7⟩
  ·have hS0 := Blk.new (w1.drew) 121 #[.slice none 0 0, .int .i64 0, .int .i64 0, .slice none 0 0]
   intro K hK; go_simp; refine hK _ _ (by (repeat first|exact J0|assumption|(apply J1;assumption)|apply J2|apply J3|apply J4)) ?_
   clear hK K; refine Z5j (Z5l rfl rfl ?_ Z5k); intro K hK; go_simp; refine (hkat _).mono ?_
   rintro e w2 ⟨rfl, hb2⟩; refine hK _ _ (by (repeat first|exact J0|assumption|(apply J1;assumption)|apply J2|apply J3|apply J4)) ?_
   clear hK K; refine Z5i ?_; have hS1 := hS0.below (show Below _ _ (w2) by (repeat first|exact J0|assumption|(apply J1;assumption)|apply J2|apply J3|apply J4))
   go_wp2_with (refine Z4n hS1 rfl _ _ _ rfl rfl rfl (by rfl) (by kernel_rfl) (by kernel_rfl) ?_; intro w7 hS7 hc7)
   have hg7 : w1.heap.size ≤ (w1.drew).heap.size := Below.size (show Below w1.heap.size w1 (w1.drew) by (repeat first|exact J0|assumption|(apply J1;assumption)|apply J2|apply J3|apply J4))
   have hb7 : Below w1.heap.size w1 w7 := Z9f (by (repeat first|exact J0|assumption|(apply J1;assumption)|apply J2|apply J3|apply J4)) hc7 hg7
   go_meet; case rel => exact ⟨((w1.drew).heap.size), rfl, hS7, hg7, hb7⟩
 case rest =>
  obtain ⟨g7, rfl, hW, hgg, hbc⟩ := hcut; obtain ⟨w3, rfl⟩ : ∃ x, x = wc := ⟨_, rfl⟩
  have hz5 : w.heap.size + 1 < w1.heap.size := hK6.lt
  have hK5c := hK5.below hbc
  have hK6c := hK6.below hbc
  have hbw3 : Below w.heap.size w w3 := Z08 hbc hb1
  clear hK5 hK6 fK5 e0 e1 e2 e3 e4 e5 e6 e7 hkat hbc; have fK5 := hK5c.facts
  have fW := hW.facts
  have hand := Zjw z3
  have hq : Hid (-z3 + z3 % 2 = nxF l plan ((kx : Int), t, a) 0) := by unfold Hid; rw [HZ.out]; unfold evnI; omega
  go_upto_region 3 with fail; rw [hq.out]; obtain ⟨w4, hw4⟩ : ∃ X, w3.setCell ⟨w.heap.size, 2, none⟩ (.int .i64 (nxF l plan ((kx : Int), t, a) 0)) = X := ⟨_, rfl⟩
  have hK5d : Blk w4 w.heap.size 100 #[.int .i64 kx, .bool t, .int .i64 (nxF l plan ((kx : Int), t, a) 0)] := by rw [← hw4]; exact hK5c.set_ 2 _
  have hK6d : Blk w4 (w.heap.size + 1) 100 #[.int .i64 0, .bool false, .int .i64 0] := by rw [← hw4]; exact hK6c.far (p := ⟨w.heap.size, 2, none⟩) (by simp) _
  have hWd : Blk w4 g7 121 #[.slice z0 (Z6y PX).length z2, .int .i64 z3, .int .i64 z4, .slice z5 z6 z7] := by rw [← hw4]; exact hW.far (p := ⟨w.heap.size, 2, none⟩) (by simp; omega) _
  have hbw4 : Below w.heap.size w w4 := by rw [← hw4]; exact Z07 hbw3 (by simp) _
  rw [hw4]; clear hw4 hK5c hK6c hW hbw3 fK5 fW hand hq hz3 HZ HPW; go_wp2; go_loopw [29] (fun i wr => ∃ k : Nat, k ≤ plan.length ∧ i = .int .i64 k ∧ Blk wr w.heap.size 100 #[.int .i64 kx, .bool t, .int .i64 (nxF l plan ((kx : Int), t, a) k)] ∧ Blk wr (w.heap.size + 1) 100 #[.int .i64 0, .bool false, .int .i64 0] ∧ Blk wr g7 121 #[.slice z0 (Z6y PX).length z2, .int .i64 z3, .int .i64 z4, .slice z5 z6 z7] ∧ Below w.heap.size w wr) (fun i _ => plan.length - (intOf i).toNat)
  case atStart => exact ⟨0, Nat.zero_le _, rfl, hK5d, hK6d, hWd, hbw4⟩
  case round =>
   clear hK5d hK6d hWd hbw4; obtain ⟨k, hk, rfl, hK5, hK6, hW, hbw⟩ := hrel; obtain ⟨wo, rfl⟩ : ∃ x, x = wr := ⟨_, rfl⟩
   by_cases hlt : k < plan.length
   ·obtain ⟨b, off, rfl, hb, c0, c1, c2⟩ := (hrP.below hbw).plc hlt
    have ho := HI.out _ (List.getElem_mem hlt)
    have hno := HN.out _ (List.getElem_mem hlt)
    have hgo := HGO.out _ (List.getElem_mem hlt)
    have hfk := HF.out k hk
    have HSk := Lib.hid (HS.out k hlt)
    obtain ⟨⟨n, u, f⟩, hoo⟩ : ∃ o, plan[k] = o := ⟨_, rfl⟩
    rw [hoo] at ho hno hgo c0 c1 c2 HSk; unfold InP at ho; simp only at ho hno c0 c1 c2
    obtain ⟨ko, rfl⟩ : ∃ k : Nat, n = k := ⟨n.toNat, by omega⟩
    have hko : ko < l.length := by omega
    obtain ⟨bA2, oA2, cA2, y2, hv2, hbA2, hy2, e0, e1, e2, e3, e4, e5, e6, e7⟩ := ha.get hko
    obtain ⟨⟨rfl, rfl⟩, rfl⟩ : (bA = bA2 ∧ oA = oA2) ∧ cA = cA2 := by simpa using hv2
    have hX := Blk.new wo 100 #[.int .i64 ko, .bool u, .int .i64 f]
    have hal : Below wo.heap.size wo (wo.alloc (.cells #[.int .i64 ko, .bool u, .int .i64 f] 100)) := Z04 Z03 _
    have hK5a := hK5.below hal
    have hWa := hW.below hal
    have hK6a := hK6.below hal
    have hbx := Z08 hal hbw
    go_upto_region 6 with fail; obtain ⟨wx, hwx⟩ : ∃ X, wo.alloc (.cells #[.int .i64 ko, .bool u, .int .i64 f] 100) = X := ⟨_, rfl⟩
    obtain ⟨gx, hgx⟩ : ∃ X, wo.heap.size = X := ⟨_, rfl⟩
    rw [hwx] at hK5a hWa hK6a hbx; rw [hwx, hgx] at hX; rw [hwx, hgx]; clear hwx hgx hal c0 c1 c2 hb; replace e0 := (hbx.cell (p := ⟨bA, oA + ko * 8, none⟩) hbA).trans e0
    replace e1 := (hbx.cell (p := ⟨bA, oA + ko * 8 + 1, none⟩) hbA).trans e1
    replace e2 := (hbx.cell (p := ⟨bA, oA + ko * 8 + 2, none⟩) hbA).trans e2
    replace e3 := (hbx.cell (p := ⟨bA, oA + ko * 8 + 3, none⟩) hbA).trans e3
    replace e4 := (hbx.cell (p := ⟨bA, oA + ko * 8 + 4, none⟩) hbA).trans e4
    replace e5 := (hbx.cell (p := ⟨bA, oA + ko * 8 + 5, none⟩) hbA).trans e5
    replace e6 := (hbx.cell (p := ⟨bA, oA + ko * 8 + 6, none⟩) hbA).trans e6
    replace e7 := (hbx.cell (p := ⟨bA, oA + ko * 8 + 7, none⟩) hbA).trans e7
    have hbAx : bA < wx.heap.size := Nat.lt_of_lt_of_le hbA hbx.size
    have hyw := hy2.way u
    rw [← Zld hko u f] at hyw; have hat2 := fun W => Zla y2 (ko : Int) u f W
    obtain ⟨⟨⟨r0, r1, r2⟩, r3, r4, ⟨r5, r6, r7⟩⟩, hzz⟩ : ∃ z, (if u then y2.2 else y2.1) = z := ⟨_, rfl⟩
    rw [hzz] at hyw hat2; have hst := hyw.st
    have hz1 := Sl.size_ hst
    simp only at hz1
    obtain ⟨Az, cz, hez, _, _, hrr⟩ := hst; simp only [slV, Value.slice.injEq] at hez; obtain ⟨rfl, -, rfl⟩ := hez; subst hz1; unfold wyV at hat2; simp only [slV] at hat2; have hfx : gapB (Z6y (pcP l ((ko : Int), u, f))) (Z6y PX) = gapB (stP l ((ko : Int), u, f)) (stP l ((kx : Int), t, a)) := by rw [HSX.out]; rfl
    have hgap := Zle hgo.near HGX.out.near
    have hmin : 0 < minL (Z6y (pcP l ((ko : Int), u, f))) (Z6y PX) := by have := hgo.pos; have := HGX.out.pos; unfold minL; omega
    have hfew := hgo.few
    have hfewx := HGX.out.few
    have HGP := Lib.hid (fun W (h1 : Rd trc 4 W r0 (Z6y (pcP l ((ko : Int), u, f)))) (h2 : Rd trc 4 W z0 (Z6y PX)) => Zjy (a1 := r3) (a2 := r4) (a3' := r5) (a4 := r6) (a5 := r7) (b1 := z3) (b2 := z4) (b3' := z5) (b4 := z6) (b5 := z7) (ca := r2) (cb := z2) (Z6y (pcP l ((ko : Int), u, f))) (Z6y PX) hgo.near HGX.out.near hmin (by omega) (by omega) h1 h2)
    rw [← hfx] at HSk; obtain ⟨G, hG⟩ : ∃ G, gapB (Z6y (pcP l ((ko : Int), u, f))) (Z6y PX) = G := ⟨_, rfl⟩
    rw [hG] at HSk HGP hgap; obtain ⟨F, hFF⟩ : ∃ F, nxF l plan ((kx : Int), t, a) k = F := ⟨_, rfl⟩
    rw [hFF] at HSk hK5a hfk; have HRR := Lib.hid hrr
    obtain ⟨⟨⟨⟨p0, p1, p2⟩, p3, p4, ⟨p5, p6, p7⟩⟩, ⟨⟨q0, q1, q2⟩, q3, q4, ⟨q5, q6, q7⟩⟩⟩, hyy⟩ : ∃ z, y2 = z := ⟨_, rfl⟩
    rw [hyy] at e0 e1 e2 e3 e4 e5 e6 e7 hat2; simp only [slV] at e0 e1 e2 e3 e4 e5 e6 e7 hat2; have fK5 := hK5a.facts
    have fWa := hWa.facts
    have fX := hX.facts
    clear hyy hzz hyw hy2 hgo hmin hfx hG hFF hrr hK5 hW hK6; refine Z0z [0, 1, 2, 3, 4, 5, 6, 7, 8, 9, 11] [(10, false), (12, false), (13, false)] [14, 15, 16] (by kernel_rfl) (by kernel_rfl) (fun d _ _ _ _ h => by cases d <;> exact h) ?_
    simp only [List.map_cons, List.map_nil, List.getD_cons_zero, List.getD_cons_succ]; repeat (go_big_quiet_step (fail))
    refine wpQuiet_nil ?_; refine Z11 rfl (fun K hK => ?_); go_simp; refine (hat2 _).mono ?_
    rintro e w7 ⟨rfl, hb7⟩; refine hK _ _ (by (repeat first|exact J0|assumption|(apply J1;assumption)|apply J2|apply J3|apply J4)) ?_
    clear hK K; have hK5a_w7 := hK5a.below (show Below _ _ w7 by (repeat first|exact J0|assumption|(apply J1;assumption)|apply J2|apply J3|apply J4))
    have fhK5a_w7 := hK5a_w7.facts
    refine Z11 rfl (fun K hK => ?_); go_simp; refine (HGP.out _ (HRR.out.below (Z08 (show Below wx.heap.size wx w7 by (repeat first|exact J0|assumption|(apply J1;assumption)|apply J2|apply J3|apply J4)) hbx)) (hrz.below (Z08 (show Below wx.heap.size wx w7 by (repeat first|exact J0|assumption|(apply J1;assumption)|apply J2|apply J3|apply J4)) hbx))).mono ?_
    rintro e w8 ⟨rfl, hb8⟩; refine hK _ _ (by (repeat first|exact J0|assumption|(apply J1;assumption)|apply J2|apply J3|apply J4)) ?_
    clear hK K; have hK5a_w8 := hK5a.below (show Below _ _ w8 by (repeat first|exact J0|assumption|(apply J1;assumption)|apply J2|apply J3|apply J4))
    have fhK5a_w8 := hK5a_w8.facts
    refine Z11 rfl (fun K hK => ?_); go_simp; refine hK _ _ (by (repeat first|exact J0|assumption|(apply J1;assumption)|apply J2|apply J3|apply J4)) ?_
    clear hK K; refine Z10 ?_; have hb8x : Below wx.heap.size wx w8 := by (repeat first|exact J0|assumption|(apply J1;assumption)|apply J2|apply J3|apply J4)
    have hK5e := hK5a.below hb8x
    have hWe := hWa.below hb8x
    have hK6e := hK6a.below hb8x
    have hbw8 := Z08 hb8x hbx
    have hgw : w.heap.size + 1 < w1.heap.size := hz5
    clear hK5a hWa hK6a hbx hb8x hb7 hb8 hat2 fK5 fWa fX hX e0 e1 e2 e3 e4 e5 e6 e7; go_wp2; go_roundw; case rel => exact ⟨k + 1, by omega, by go_num, by rw [HSk.out]; exact hK5e.set_ 2 _, hK6e.far (p := ⟨w.heap.size, 2, none⟩) (by simp) _, hWe.far (p := ⟨w.heap.size, 2, none⟩) (by simp; omega) _, Z07 hbw8 (by simp) _⟩
    case measure => simp [intOf]; omega
   ·obtain rfl : k = plan.length := by omega
    have fK5 := hK5.facts
    obtain ⟨F, hFF⟩ : ∃ F, nxF l plan ((kx : Int), t, a) plan.length = F := ⟨_, rfl⟩
    rw [hFF] at hK5 fK5 ⊢; go_wp2_with (refine Z4n hK6 rfl _ _ _ rfl rfl rfl (by rfl) (by kernel_rfl) (by kernel_rfl) ?_; intro w12 hZ12 hc12; have f12 := hZ12.facts)
    refine bodyPost_ret (v := .agg #[.int .i64 kx, .bool t, .int .i64 F]) (by simp [results, Tryz.results63, go_sem, f12]) rfl ?_
    exact ⟨by rw [hFF], Z9f hbw hc12 (by omega)⟩
def booV (b : Bool) : Value := .bool b
def ik (n : Int) : Value := .int .i64 n
theorem Zll : Z3i Tryz.prog 3 ik where
 und := ⟨.int .i64, by kernel_rfl, .inr fun a b => by
  simp only [Instr.sameNow, ik]; by_cases h : a = b
  ·subst h; simp
  ·simp [h]⟩
 eq a b w := by
  have h : Tryz.prog.underlying 3 = some (.int .i64) := by kernel_rfl
  unfold Op.equal Op.maxDepth ik; rw [Op.equalIn]; simp only [Sem.run_bind, run_underlying h, Result.andThen_ok]; by_cases hh : a = b
  ·subst hh; simp [go_sem]
  ·simp [go_sem, hh]
 ok e a w := by
  have h : Tryz.prog.underlying 3 = some (.int .i64) := by kernel_rfl
  unfold ik; rw [Instr.checkKey]; simp only [Sem.run_bind, run_underlying h, Result.andThen_ok]; rfl
 same a := by simp [Instr.sameBits, ik]
theorem Zlm : Tryz.prog.underlying 265 = some (.map 3 4) := by kernel_rfl
theorem Zln : Tryz.prog.underlying 199 = some (.map 9 4) := by kernel_rfl
theorem Zlo (w : World) : (zeroValue 4).run Tryz.prog w = .ok (.bool false) w := by kernel_rfl
def memB {κ : Type} [DecidableEq κ] (S : List κ) (q : κ) : Bool := decide (q ∈ S)
def Zlp {κ : Type} [DecidableEq κ] (ek : κ → Value) (w : World) (r : Nat) (S : List κ) : Prop := ∃ m c, Z3h ek booV w r m c ∧ MOk m c ∧ Z3d m = S ∧ ∀ q, mget q m = if q ∈ S then some true else none
section
variable {κ : Type} [DecidableEq κ] {ek : κ → Value} {w w' : World} {r : Nat} {S : List κ}
theorem Zlp.new (w : World) : Zlp ek (w.alloc (.map #[] 0)) w.heap.size [] := ⟨[], 0, Z3h.new w ek booV, MOk.nil_, rfl, fun q => by simp [mget]⟩
theorem Zlp.below (h : Zlp ek w r S) (hb : Below w.heap.size w w') : Zlp ek w' r S := by
 obtain ⟨m, c, h1, h2⟩ := h
 exact ⟨m, c, h1.below hb, h2⟩
theorem Zlp.alloc (h : Zlp ek w r S) (o : Obj) : Zlp ek (w.alloc o) r S := h.below (Z04 Z03 _)
theorem Zlp.look (h : Zlp ek w r S) {t k : TypeId} (K : Z3i Tryz.prog k ek) (ht : Tryz.prog.underlying t = some (.map k 4)) (q : κ) :
  (Instr.lookup t (.map (some r)) (ek q) false).run Tryz.prog w = .ok (.bool (memB S q)) w := by
 obtain ⟨m, c, h1, h2, h3, h4⟩ := h
 refine (h1.look K ht (Zlo w) q).trans ?_
 rw [h4 q]
 unfold memB
 by_cases h0 : q ∈ S
 ·simp [h0, booV]
 ·simp [h0]
theorem Zlp.put (h : Zlp ek w r S) {t k : TypeId} (K : Z3i Tryz.prog k ek) (ht : Tryz.prog.underlying t = some (.map k 4)) (x : κ) :
  ∃ w2, (Instr.mapUpdate t (.map (some r)) (ek x) (.bool true)).run Tryz.prog w = .ok () w2 ∧ Zlp ek w2 r (if x ∈ S then S else S ++ [x]) ∧ Chg [r] w w2 ∧ w.grownBy w2 (some r) ∧ w2.heap.size = w.heap.size := by
 obtain ⟨m, c, h1, h2, h3, h4⟩ := h
 have e := h1.put K ht x true
 have hC : Chg [r] w (setBlock w r (.map ((mput x true c m).map (ment ek booV)).toArray (mclk x m c))) := Chg.refl.setBlock (by simp) _
 refine ⟨_, e, ⟨mput x true c m, mclk x m c, ?_, h2.put _ _, ?_, fun q => ?_⟩, hC, ?_, by simp [setBlock]⟩
 ·show (w.heap.setIfInBounds r _)[r]? = _
  rw [Array.getElem?_setIfInBounds_self_of_lt h1.lt]
 ·rw [Z3f, h3]
 ·rw [Z3e, h4 q]
  by_cases hq : q = x
  ·subst hq
   rw [if_pos rfl]; by_cases hm : q ∈ S
   ·rw [if_pos hm, if_pos hm]
   ·rw [if_neg hm, if_pos (by simp)]
  ·rw [if_neg hq]
   by_cases hm : x ∈ S
   ·rw [if_pos hm]
   ·rw [if_neg hm]
    simp [hq]
 ·exact ⟨hC.os, hC.tape, hC.output, hC.size, fun k hk hne => hC.block k hk (by intro hm; apply hne; simp at hm; rw [hm])⟩
end
theorem Zlp.lookS {w : World} {r : Nat} {S : List Str} (h : Zlp sV w r S) (q : Str) : (Instr.lookup 199 (.map (some r)) (.string ⟨q.toArray⟩) false).run Tryz.prog w = .ok (.bool (memB S q)) w := h.look Zj6 Zln q
theorem Zlp.lookI {w : World} {r : Nat} {S : List Int} (h : Zlp ik w r S) (q : Int) : (Instr.lookup 265 (.map (some r)) (.int .i64 q) false).run Tryz.prog w = .ok (.bool (memB S q)) w := h.look Zll Zlm q
theorem Zlq {κ : Type} [DecidableEq κ] {S : List κ} {q : κ} (h : q ∈ S) : memB S q = true := by unfold memB; simp [h]
theorem Zlr {α κ : Type} [DecidableEq κ] (f : α → κ) (l : List α) (q : κ) : memB (l.map f) q = l.any fun x => decide (f x = q) := by
 unfold memB
 rw [Bool.eq_iff_iff, decide_eq_true_iff, List.mem_map, List.any_eq_true]
 simp
theorem Zls (l : List Pan) (q : Str) : memB (l.map (·.1)) q = agnB l q := by
 rw [Zlr]
 unfold agnB
 congr 1
 funext x
 rw [Bool.eq_iff_iff]
 simp
def Zlt (done : List Bal) (b : Bal) : Int := Z17 [balE b, Z15 (memB (done.map fun z : Bal => z.1) b.1) 9]
def stoG : List Bal → List Bal → Int
 | _, [] => 0
 | done, b :: r => if Zlt done b = 0 then stoG (done ++ [b]) r else Zlt done b
def stoE (l : List Bal) : Int := if 16 < l.length then 5 else stoG [] l
theorem Zlu {l : List Bal} {k : Nat} (hk : k < l.length) : stoG (l.take k) (l.drop k) = if Zlt (l.take k) l[k] = 0 then stoG (l.take (k + 1)) (l.drop (k + 1)) else Zlt (l.take k) l[k] := by
 rw [List.drop_eq_getElem_cons hk, stoG, ← List.take_succ_eq_append_getElem hk]
theorem Zlv {done : List Bal} {b : Bal} (h : Zlt done b = 0) : b.1 ∉ (done.map fun z : Bal => z.1) := by
 intro hm
 unfold Zlt at h
 have := (Z9l h).2
 rw [Zlq hm] at this
 cases this
theorem Zlw {A : Option Addr} {c : Nat} (l : List Bal) (w : World) (hr : Rd blc 3 w A l) (hnm : ∀ b ∈ l, b.1.length ≤ 1000000) (hll : l.length ≤ 100000) : Calls Tryz.prog 124 #[.slice A l.length c] w (RV w (.int .i64 (stoE l))) := by
 have hHN := Lib.hid hnm
 clear hnm
 by_cases h16 : 16 < l.length
 ·have HE : Hid (stoE l = 5) := by unfold Hid stoE; rw [if_pos h16]
  have t1 : (16 < l.length) = True := eq_true (by omega)
  have t2 : (16 < (l.length : Int)) = True := eq_true (by omega)
  clear h16; go_enter Tryz.func124, Tryz.ntmps124
  go_wp2; go_ret; exact ⟨by rw [HE.out]; rfl, by (repeat first|exact J0|assumption|(apply J1;assumption)|apply J2|apply J3|apply J4)⟩
 ·have HE : Hid (stoE l = stoG (l.take 0) (l.drop 0)) := by unfold Hid stoE; rw [if_neg h16]; rfl
  have t1 : (16 < l.length) = False := eq_false (by omega)
  have t2 : (16 < (l.length : Int)) = False := eq_false (by omega)
  have hl16 : l.length ≤ 16 := by omega
  clear h16; have hM0 : Zlp sV (w.alloc (.map #[] 0)) w.heap.size ([] : List Str) := Zlp.new w
  go_enter Tryz.func124, Tryz.ntmps124
  go_wp2; go_loopw [13] (fun s wr => ∃ k : Nat, k ≤ l.length ∧ s = .int .i64 k ∧ Hid (stoE l = stoG (l.take k) (l.drop k)) ∧ Zlp sV wr w.heap.size ((l.take k).map fun z : Bal => z.1) ∧ Below w.heap.size w wr) (fun s _ => l.length - (intOf s).toNat)
  case atStart => exact ⟨0, Nat.zero_le _, rfl, HE, by simpa using hM0, Z04 Z03 _⟩
  case round =>
   clear t1 t2 hM0; obtain ⟨k, hk, rfl, HK, hM, hbw⟩ := hrel; obtain ⟨wo, rfl⟩ : ∃ x, x = wr := ⟨_, rfl⟩
   by_cases hlt : k < l.length
   ·have hnk := hHN.out _ (List.getElem_mem hlt)
    have HF := Lib.hid (Zlu hlt)
    have HT := Lib.hid (List.take_succ_eq_append_getElem hlt)
    obtain ⟨b, off, rfl, hb, e0, e1, e2⟩ := (hr.below hbw).bal hlt
    obtain ⟨x, hxe⟩ : ∃ x, l[k] = x := ⟨_, rfl⟩
    rw [hxe] at hnk HF HT e0 e1 e2; have hcb := fun W => Zjh x hnk W
    obtain ⟨D, hD⟩ : ∃ D, l.take k = D := ⟨_, rfl⟩
    rw [hD] at HK HF HT hM; have hf2 : ∀ A c' W, Rd ic 1 W A [balE x, Z15 (memB (D.map fun z : Bal => z.1) x.1) 9] → Calls Tryz.prog 56 #[.slice A 2 c'] W (RV W (.int .i64 (Zlt D x))) := fun A c' W hr => Zjd [balE x, Z15 (memB (D.map fun z : Bal => z.1) x.1) 9] A c' W (by simp [maxLen]) hr
    have HNW := Lib.hid (Zlv (done := D) (b := x))
    have hM1 := hM.alloc (.cells (blc x).toArray 27)
    obtain ⟨wx, hwx⟩ : ∃ X, wo.alloc (.cells (blc x).toArray 27) = X := ⟨_, rfl⟩
    rw [hwx] at hM1; have hlk : ∀ g : Bel wx.heap.size wx, (Instr.lookup 199 (.map (some w.heap.size)) (.string ⟨x.1.toArray⟩) false).run Tryz.prog g.val = .ok (.bool (memB (D.map fun z : Bal => z.1) x.1)) g.val := fun g => (hM1.below g.below).lookS x.1
    have hput := fun W (hb : Below wx.heap.size wx W) => (hM1.below hb).put Zj6 Zln x.1
    obtain ⟨E, hE⟩ : ∃ E, Zlt D x = E := ⟨_, rfl⟩
    rw [hE] at hf2 HF HNW; obtain ⟨E1, hE1⟩ : ∃ E, balE x = E := ⟨_, rfl⟩
    rw [hE1] at hf2 hcb; obtain ⟨q, hq⟩ : ∃ q, memB (D.map fun z : Bal => z.1) x.1 = q := ⟨_, rfl⟩
    rw [hq] at hf2 hlk; have HPUT := Lib.hid hput
    obtain ⟨nm, n1, n2⟩ := x; simp only at e0 e1 e2 hcb hlk HNW
    unfold sV at hcb; clear hxe hE hE1 hq hD hnk hput; have hX := Blk.new wo 27 #[.string ⟨nm.toArray⟩, .int .i64 n1, .int .i64 n2]
    have hbx := Z04 hbw (.cells #[.string ⟨nm.toArray⟩, .int .i64 n1, .int .i64 n2] 27)
    go_upto_region 7 with fail; have hwx' : wo.alloc (.cells #[.string ⟨nm.toArray⟩, .int .i64 n1, .int .i64 n2] 27) = wx := hwx
    obtain ⟨gx, hgx⟩ : ∃ X, wo.heap.size = X := ⟨_, rfl⟩
    rw [hwx', hgx] at hX; rw [hwx'] at hbx; rw [hwx', hgx]; clear hwx hwx' hgx e0 e1 e2; have fX := hX.facts
    refine Z0z [0, 2, 3, 4, 5] [(1, false)] [6, 7, 8, 9] (by kernel_rfl) (by kernel_rfl) (fun d _ _ _ _ h => by cases d <;> exact h) ?_
    simp only [List.map_cons, List.map_nil, List.getD_cons_zero, List.getD_cons_succ]; repeat (go_big_quiet_step (fail))
    refine wpQuiet_nil ?_; refine Z11 rfl (fun K hK => ?_); go_simp; refine (hcb _).mono ?_
    rintro e w8 ⟨rfl, hb8⟩; refine hK _ _ (by (repeat first|exact J0|assumption|(apply J1;assumption)|apply J2|apply J3|apply J4)) ?_
    clear hK K; have hX_w8 := hX.below (show Below _ _ w8 by (repeat first|exact J0|assumption|(apply J1;assumption)|apply J2|apply J3|apply J4))
    have fhX_w8 := hX_w8.facts
    refine Z10 ?_; clear hlk; go_wp2_with fail; refine (Zjb _ 9 _).mono ?_
    rintro e w10 ⟨rfl, hb10⟩; go_wp2_with fail; go_must (refine (hf2 _ _ _ (Rd.ints2 (by simp) (by go_simp) (by go_simp))).mono ?_)
    rintro e w11 ⟨rfl, hb11⟩; have hbx11 : Below wx.heap.size wx w11 := by (repeat first|exact J0|assumption|(apply J1;assumption)|apply J2|apply J3|apply J4)
    by_cases hz : E = 0
    ·have t0 : (E != 0) = false := by simp [hz]
     have HN : Hid (stoE l = stoG (l.take (k + 1)) (l.drop (k + 1))) := by unfold Hid; rw [HK.out, HF.out, if_pos hz]
     have hnew := HNW.out hz
     obtain ⟨w12, hp12, hM12, hc12, hg12, hs12⟩ := HPUT.out w11 hbx11
     try simp only at hp12 hM12
     rw [if_neg hnew] at hM12; have fX11 := (hX.below hbx11).facts
     have hb12 : Below w.heap.size w w12 := Z9f (Z08 hbx11 hbx) hc12 (Nat.le_refl _)
     have HTT : Hid ((D.map fun z : Bal => z.1) ++ [nm] = (l.take (k + 1)).map fun z : Bal => z.1) := by unfold Hid; rw [HT.out]; simp
     unfold sV at hp12; clear hz hnew hcb hf2; go_wp2; go_roundw; case rel => exact ⟨k + 1, by omega, by go_num, HN, by rw [← HTT.out]; exact hM12, hb12⟩
     case measure => simp [intOf]; omega
    ·have t0 : (E != 0) = true := by simp [hz]
     have HN : Hid (stoE l = E) := by unfold Hid; rw [HK.out, HF.out, if_neg hz]
     clear hz hcb hf2; go_wp2; go_ret; exact ⟨by rw [HN.out]; rfl, by exact Z08 hbx11 hbx⟩
   ·obtain rfl : k = l.length := by omega
    have HEE : Hid (stoE l = 0) := by unfold Hid; rw [HK.out, List.drop_length]; rfl
    go_wp2; go_ret; exact ⟨by rw [HEE.out]; rfl, hbw⟩
end Go.Proofs.YtpcgeihemkhkjaaGreatDoor
