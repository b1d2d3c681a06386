/- awake of Bale, walked. Conditions: the variables are laid. -/
import Derived.Test.YtpcgeihemkhkjaaGreatDoorS40
import Derived.Test.YtpcgeihemkhkjaaGreatDoorS41
namespace Go.Proofs.YtpcgeihemkhkjaaGreatDoor
open Go.RowKit Go.ChangeMaps
set_option maxHeartbeats 4000000
set_option maxRecDepth 100000
attribute [local go_sem] Oper.semAt_some
theorem Zrs : ∀ p ∈ pcsB, p.1.length ≤ 1000000 := by
 intro p hp
 simp [pcsB, wngB, dorB] at hp
 rcases hp with rfl | rfl <;> simp
theorem Zrt : pcsB.length ≤ 100000 := by decide
theorem Zru {W : World} {v : Value} (h : SlP W v pcsB) : ∃ (b off c : Nat) (vL vR uL uR : Value), v = .slice (some ⟨b, off, none⟩) 2 c ∧ b < W.heap.size ∧
  W.cell? ⟨b, off, none⟩ = some (.string ⟨#[119, 105, 110, 103]⟩) ∧ W.cell? ⟨b, off + 1, none⟩ = some (.int .i64 2) ∧ W.cell? ⟨b, off + 2, none⟩ = some vL ∧ W.cell? ⟨b, off + 3, none⟩ = some vR ∧
  W.cell? ⟨b, off + 4, none⟩ = some (.string ⟨#[100, 111, 111, 114]⟩) ∧ W.cell? ⟨b, off + 4 + 1, none⟩ = some (.int .i64 3) ∧ W.cell? ⟨b, off + 4 + 2, none⟩ = some uL ∧ W.cell? ⟨b, off + 4 + 3, none⟩ = some uR ∧
  SlE W vL wngB.2.2.1 ∧ SlE W vR wngB.2.2.2 ∧ SlE W uL dorB.2.2.1 ∧ SlE W uR dorB.2.2.2 := by
 obtain ⟨xs, ⟨A, c, rfl, _, _, hr⟩, hx⟩ := h
 obtain ⟨x, y, rfl⟩ : ∃ x y, xs = [x, y] := by
  have := hx.len
  match xs, this with
  | [x, y], _ => exact ⟨x, y, rfl⟩
 obtain ⟨h1, h2, _⟩ := hx
 obtain ⟨b, off, rfl, hlt, a0, a1, a2, a3⟩ := hr.pan (k := 0) rfl
 obtain ⟨b', off', e, _, b0, b1, b2, b3⟩ := hr.pan (k := 1) rfl
 obtain ⟨rfl, rfl⟩ : b = b' ∧ off = off' := by simpa using e
 rw [h1.nm] at a0
 rw [h1.wd] at a1
 rw [h2.nm] at b0
 rw [h2.wd] at b1
 simp only [Nat.zero_mul, Nat.one_mul, Nat.add_zero] at a0 a1 a2 a3 b0 b1 b2 b3
 exact ⟨b, off, c, _, _, _, _, rfl, hlt, a0, a1, a2, a3, b0, b1, b2, b3, h1.left, h1.right, h2.left, h2.right⟩
theorem Zrv {vL vR uL uR : Value} (w : World) (hL : SlE w vL wngB.2.2.1) (hR : SlE w vR wngB.2.2.2) (kL : SlE w uL dorB.2.2.1) (kR : SlE w uR dorB.2.2.2) : Calls Tryz.prog 50 #[.agg #[.string ⟨#[119, 105, 110, 103]⟩, .int .i64 2, vL, vR], .agg #[.string ⟨#[100, 111, 111, 114]⟩, .int .i64 3, uL, uR]] w (RV w (.tuple #[.int .i64 6, .int .i64 0])) := by
 have := Zpz wngB dorB w (by decide) (by decide) hL hR kL kR
 rwa [Zqh, Zqi] at this
theorem Zrw {vL vR uL uR : Value} (w : World) (hL : SlE w vL wngB.2.2.1) (hR : SlE w vR wngB.2.2.2) (kL : SlE w uL wngB.2.2.1) (kR : SlE w uR wngB.2.2.2) : Calls Tryz.prog 50 #[.agg #[.string ⟨#[119, 105, 110, 103]⟩, .int .i64 2, vL, vR], .agg #[.string ⟨#[119, 105, 110, 103]⟩, .int .i64 2, uL, uR]] w (RV w (.tuple #[.int .i64 6, .int .i64 0])) := by
 have := Zpz wngB wngB w (by decide) (by decide) hL hR kL kR
 rwa [Zqj, Zqk] at this
theorem Zrx {v u : Value} (w : World) (h : SlP w v pcsB) (hp : SlL w u ord5) : Calls Tryz.prog 13 #[v, u] w (RGE plc 3 100 w pln5 0) := by
 have := Zml pcsB ord5 w h hp Zrs Zrt (by decide)
 rwa [Zql, Zqm] at this
theorem Zry {v u : Value} (w : World) (h : SlP w v pcsB) (hp : SlL w u pln5) : Calls Tryz.prog 16 #[v, u] w (RV w (.tuple #[.int .i64 6, .int .i64 0])) := by
 have := Zmn pcsB pln5 w h hp Zrs Zrt (by decide)
 rwa [Zqn, Zqo] at this
theorem Zrz {v : Value} (w : World) (h : SlP w v pcsB) : Calls Tryz.prog 12 #[.agg #[.string ⟨#[98]⟩, .int .i64 2, .int .i64 9], v] w (RV w (.tuple #[.agg #[.int .i64 6, .int .i64 3], .int .i64 0])) := by
 have := Zqg bgtB pcsB w (by decide) h Zrs Zrt
 rwa [Zqp, Zqq, Zqr] at this
theorem Zs0 {v u : Value} (w : World) (h : SlP w v pcsB) (hp : SlL w u pln5) : Calls Tryz.prog 15 #[.agg #[.string ⟨#[98]⟩, .int .i64 2, .int .i64 9], v, u] w (RV w (.int .i64 0)) := by
 have := Zmq bgtB pcsB pln5 w (by decide) h hp Zrs Zrt (by decide)
 rwa [Zqs] at this
theorem Zs1 {v u : Value} (w : World) (h : SlP w v pcsB) (hp : SlL w u pln5) : Calls Tryz.prog 33 #[.agg #[.string ⟨#[98]⟩, .int .i64 2, .int .i64 9], v, u] w (RV w (.tuple #[.int .i64 2, .int .i64 0])) := by
 have := Zp7 bgtB pcsB pln5 w (by decide) h hp Zrs Zrt (by decide)
 rwa [Zqs, Zqt] at this
theorem Zs2 {v u : Value} (w : World) (h : SlP w v pcsB) (hp : SlL w u pln5) : Calls Tryz.prog 32 #[.agg #[.string ⟨#[98]⟩, .int .i64 2, .int .i64 9], v, u] w (RBE w [(6, 0, -1), (7, 1, -1)] 0) := by
 have := Zq7 bgtB pcsB pln5 w (by decide) h hp Zrs Zrt (by decide)
 rwa [Zqu, Zqv] at this
theorem Zs3 {v u : Value} (w : World) (h : SlP w v pcsB) (hp : SlL w u pln5) : Calls Tryz.prog 34 #[.agg #[.string ⟨#[98]⟩, .int .i64 2, .int .i64 9], v, u] w (RV w (.tuple #[.agg #[.int .i64 11, .int .i64 12], .int .i64 0])) := by
 have := Zpa bgtB pcsB pln5 w (by decide) h hp Zrs Zrt (by decide)
 rwa [Zqw, Zqx, Zqy] at this
theorem Zs4 {v u : Value} (w : World) (h : SlP w v pcsB) (hp : SlL w u pln5) : Calls Tryz.prog 35 #[.agg #[.string ⟨#[98]⟩, .int .i64 2, .int .i64 9], v, u] w (RV w (.tuple #[.agg #[.string ⟨#[98]⟩, .int .i64 2, .int .i64 3], .int .i64 0])) := by
 have := Zp8 bgtB pcsB pln5 w (by decide) h hp Zrs Zrt (by decide)
 rwa [Zqz, Zr0] at this
theorem Zs5 {v u : Value} (w : World) (hL : LayB w) (h : SlP w v pcsB) (hp : SlL w u pln5) : Calls Tryz.prog 53 #[v, u] w (RV w (.tuple #[.string ⟨txt5.toArray⟩, .int .i64 0])) := by
 have := Znw pcsB pln5 w hL h hp Zrs Zrt (by decide)
 rwa [Zqn, Zr1] at this
theorem Zs6 {v : Value} (w : World) (hL : LayB w) (h : SlP w v pcsB) : Calls Tryz.prog 54 #[v, .string ⟨txt5.toArray⟩] w (RPB w (pln5, 0, 0)) := by
 have := Zpi pcsB txt5 w hL h Zrs Zrt (by decide)
 rwa [Zr2] at this
theorem Zs7 {v : Value} (w : World) (h : SlP w v pcsB) : Calls Tryz.prog 10 #[.agg #[.string ⟨#[98]⟩, .int .i64 2, .int .i64 9], v] w (RPB w (pln5, 6, 0)) := by
 have := Zpu bgtB pcsB w h (by decide) Zrs Zrt
 rwa [Zr3] at this
theorem Zs8 {v : Value} {A : Option Addr} {c : Nat} (w : World) (hs : Rd blc 3 w A stkB) (h : SlP w v pcsB) : Calls Tryz.prog 55 #[.slice A 2 c, v] w (RPPE w [[], pln5] 0) := by
 have := Zov (c := c) stkB pcsB w hs (by intro b hb; simp [stkB] at hb; rcases hb with rfl | rfl <;> simp) (by decide) h Zrs Zrt
 rwa [Zr4, Zr5] at this
theorem Zs9 {v u : Value} (w : World) (ha : SlL w v pln5) (hb : SlL w u pln5) : Calls Tryz.prog 17 #[v, u] w (RV w (.bool true)) := by
 obtain ⟨A, c, rfl, _, _, h1⟩ := ha
 obtain ⟨B, d, rfl, _, _, h2⟩ := hb
 have := Zrd pln5 pln5 A B c d w h1 h2 (by decide) (by decide)
 rwa [show decide (pln5 = pln5) = true by decide] at this
theorem Zsa {v u : Value} (w : World) (h : SlB w v [(6, 0, -1), (7, 1, -1)]) (h' : SlB w u [(6, 0, -1), (7, 1, -1)]) : Calls Tryz.prog 49 #[v, u] w (RV w (.bool true)) := by
 have := Z58 [(6, 0, -1), (7, 1, -1)] [(6, 0, -1), (7, 1, -1)] w h h'
 rwa [show decide (([(6, 0, -1), (7, 1, -1)] : List Bar) = [(6, 0, -1), (7, 1, -1)]) = true by decide] at this
theorem Zsb {W : World} {v : Value} (h : SlPP W v [[], pln5]) : ∃ (b off c : Nat) (A0 : Option Addr) (c0 : Nat) (A1 : Option Addr) (c1 : Nat), v = .slice (some ⟨b, off, none⟩) 2 c ∧ b < W.heap.size ∧
  W.cell? ⟨b, off, none⟩ = some (.slice A0 0 c0) ∧ W.cell? ⟨b, off + 1, none⟩ = some (.slice A1 2 c1) ∧ SlL W (.slice A1 2 c1) pln5 := by
 obtain ⟨ts, ⟨A, c, rfl, _, _, hr⟩, hx⟩ := h
 match ts, hx with
 | [t, u], hx =>
  obtain ⟨h1, h2, _⟩ := hx; obtain ⟨b, off, rfl, hlt, hc⟩ := hr 0 t rfl
  obtain ⟨b', off', e, _, hc'⟩ := hr 1 u rfl
  obtain ⟨rfl, rfl⟩ : b = b' ∧ off = off' := by simpa using e
  obtain ⟨A0, c0, e0, _⟩ := id h1
  obtain ⟨A1, c1, e1, _⟩ := id h2
  have a0 := hc 0 _ rfl
  have a1 := hc' 0 _ rfl
  rw [e0] at a0; rw [e1] at a1 h2; have a0' : W.cell? ⟨b, off, none⟩ = some (.slice A0 ([] : List Plc).length c0) := by simpa using a0
  have a1' : W.cell? ⟨b, off + 1, none⟩ = some (.slice A1 pln5.length c1) := by simpa using a1
  exact ⟨b, off, c, A0, c0, A1, c1, rfl, hlt, a0', a1', h2⟩
theorem Zsc {v : Value} (w : World) (h : SlL w v pln5) : Calls Tryz.prog 18 #[v] w (RG5 plc 3 101 w pln5) := by
 obtain ⟨A, c, rfl, _, _, hr⟩ := h
 exact Zrf pln5 A c w hr (by decide)
@[go_sem] theorem eq5_bnd (w : World) : (Op.equalIn 10000 35 (.agg #[.int .i64 6, .int .i64 3]) (.agg #[.int .i64 6, .int .i64 3])).run Tryz.prog w = .ok true w := by kernel_rfl
@[go_sem] theorem eq5_rat (w : World) : (Op.equalIn 10000 70 (.agg #[.int .i64 11, .int .i64 12]) (.agg #[.int .i64 11, .int .i64 12])).run Tryz.prog w = .ok true w := by kernel_rfl
@[go_sem] theorem eq5_bal (w : World) : (Op.equalIn 10000 27 (.agg #[.string ⟨#[98]⟩, .int .i64 2, .int .i64 3]) (.agg #[.string ⟨#[98]⟩, .int .i64 2, .int .i64 3])).run Tryz.prog w = .ok true w := by kernel_rfl
theorem awake5_any (w : World) (hLB : LayB w) : Calls Tryz.prog 8 #[] w (RV w (.bool true)) := by
 go_enter Tryz.func8, Tryz.ntmps8
 go_upto_region 1 with fail
 refine Zro [] [(0, false), (1, true), (2, true), (3, false), (4, false), (5, false), (6, false), (7, false), (8, true), (9, true), (10, false)] [11] (by kernel_rfl) (by kernel_rfl) (fun d _ _ _ _ h => by cases d <;> exact h) ?_
 simp only [List.map_cons, List.map_nil, List.getD_cons_zero, List.getD_cons_succ]
 repeat (go_big_quiet_step (fail))
 refine wpQuiet_nil ?_
 refine Zrq rfl (fun K hK => ?_)
 go_simp
 refine (Zr9 _).mono ?_
 rintro e w1 ⟨v1, rfl, hS1, hb1⟩
 refine hK _ _ (by (repeat first|exact J0|assumption|(apply J1;assumption)|apply J2|apply J3|apply J4)) ?_
 clear hK K
 obtain ⟨b1, o1, c1, vL1, vR1, uL1, uR1, rfl, hlt1, z0_1, z1_1, z2_1, z3_1, y0_1, y1_1, y2_1, y3_1, hL1, hR1, kL1, kR1⟩ := Zru hS1
 iterate 2 (refine Zrr rfl ?_; intro K hK; go_big_quiet_op; go_big_quiet_on)
 refine Zrq rfl (fun K hK => ?_)
 go_simp
 refine (Zr9 _).mono ?_
 rintro e w2 ⟨v2, rfl, hS2, hb2⟩
 refine hK _ _ (by (repeat first|exact J0|assumption|(apply J1;assumption)|apply J2|apply J3|apply J4)) ?_
 clear hK K
 obtain ⟨b2, o2, c2, vL2, vR2, uL2, uR2, rfl, hlt2, z0_2, z1_2, z2_2, z3_2, y0_2, y1_2, y2_2, y3_2, hL2, hR2, kL2, kR2⟩ := Zru hS2
 iterate 2 (refine Zrq rfl (fun K hK => ?_); go_simp; refine hK _ _ (by (repeat first|exact J0|assumption|(apply J1;assumption)|apply J2|apply J3|apply J4)) ?_; clear hK K)
 refine Zrq rfl (fun K hK => ?_)
 go_simp
 refine (Zrv _ (hL1.below hb2) (hR1.below hb2) kL2 kR2).mono ?_
 rintro e w3 ⟨rfl, hb3⟩
 refine hK _ _ (by (repeat first|exact J0|assumption|(apply J1;assumption)|apply J2|apply J3|apply J4)) ?_
 clear hK K
 refine Zrq rfl (fun K hK => ?_)
 go_simp
 refine hK _ _ (by (repeat first|exact J0|assumption|(apply J1;assumption)|apply J2|apply J3|apply J4)) ?_
 clear hK K
 iterate 2 (refine Zrr rfl ?_; intro K hK; go_big_quiet_op; go_big_quiet_on)
 refine Zrq rfl (fun K hK => ?_)
 go_simp
 refine hK _ _ (by (repeat first|exact J0|assumption|(apply J1;assumption)|apply J2|apply J3|apply J4)) ?_
 clear hK K
 refine Zrp ?_
 have hbw3 : Below w.heap.size w w3 := by (repeat first|exact J0|assumption|(apply J1;assumption)|apply J2|apply J3|apply J4)
 clear hb1 hb2 hb3 hS1 hS2 z0_1 z1_1 z2_1 z3_1 y0_1 y1_1 y2_1 y3_1 z0_2 z1_2 z2_2 z3_2 y0_2 y1_2 y2_2 y3_2
 go_upto_region 2 with fail
 refine Zro [] [(0, false), (1, true), (2, true), (3, false), (4, false), (5, false), (6, false), (7, false), (8, true), (9, true), (10, false)] [11] (by kernel_rfl) (by kernel_rfl) (fun d _ _ _ _ h => by cases d <;> exact h) ?_
 simp only [List.map_cons, List.map_nil, List.getD_cons_zero, List.getD_cons_succ]
 repeat (go_big_quiet_step (fail))
 refine wpQuiet_nil ?_
 refine Zrq rfl (fun K hK => ?_)
 go_simp
 refine (Zr9 _).mono ?_
 rintro e w4 ⟨v4, rfl, hS4, hb4⟩
 refine hK _ _ (by (repeat first|exact J0|assumption|(apply J1;assumption)|apply J2|apply J3|apply J4)) ?_
 clear hK K
 obtain ⟨b4, o4, c4, vL4, vR4, uL4, uR4, rfl, hlt4, z0_4, z1_4, z2_4, z3_4, y0_4, y1_4, y2_4, y3_4, hL4, hR4, kL4, kR4⟩ := Zru hS4
 iterate 2 (refine Zrr rfl ?_; intro K hK; go_big_quiet_op; go_big_quiet_on)
 refine Zrq rfl (fun K hK => ?_)
 go_simp
 refine (Zr9 _).mono ?_
 rintro e w5 ⟨v5, rfl, hS5, hb5⟩
 refine hK _ _ (by (repeat first|exact J0|assumption|(apply J1;assumption)|apply J2|apply J3|apply J4)) ?_
 clear hK K
 obtain ⟨b5, o5, c5, vL5, vR5, uL5, uR5, rfl, hlt5, z0_5, z1_5, z2_5, z3_5, y0_5, y1_5, y2_5, y3_5, hL5, hR5, kL5, kR5⟩ := Zru hS5
 iterate 2 (refine Zrq rfl (fun K hK => ?_); go_simp; refine hK _ _ (by (repeat first|exact J0|assumption|(apply J1;assumption)|apply J2|apply J3|apply J4)) ?_; clear hK K)
 refine Zrq rfl (fun K hK => ?_)
 go_simp
 refine (Zrw _ (hL4.below hb5) (hR4.below hb5) hL5 hR5).mono ?_
 rintro e w6 ⟨rfl, hb6⟩
 refine hK _ _ (by (repeat first|exact J0|assumption|(apply J1;assumption)|apply J2|apply J3|apply J4)) ?_
 clear hK K
 refine Zrq rfl (fun K hK => ?_)
 go_simp
 refine hK _ _ (by (repeat first|exact J0|assumption|(apply J1;assumption)|apply J2|apply J3|apply J4)) ?_
 clear hK K
 iterate 2 (refine Zrr rfl ?_; intro K hK; go_big_quiet_op; go_big_quiet_on)
 refine Zrq rfl (fun K hK => ?_)
 go_simp
 refine hK _ _ (by (repeat first|exact J0|assumption|(apply J1;assumption)|apply J2|apply J3|apply J4)) ?_
 clear hK K
 refine Zrp ?_
 have hbw6 : Below w.heap.size w w6 := by (repeat first|exact J0|assumption|(apply J1;assumption)|apply J2|apply J3|apply J4)
 clear hb4 hb5 hb6 hS4 hS5 hbw3 z0_4 z1_4 z2_4 z3_4 y0_4 y1_4 y2_4 y3_4 z0_5 z1_5 z2_5 z3_5 y0_5 y1_5 y2_5 y3_5
 go_upto_region 3 with fail
 go_wp2_with fail
 refine (Zr9 _).mono ?_
 rintro e w7 ⟨v7, rfl, hS7, hb7⟩
 have hk8 := (Zr8 (enc := plc) (sz := 3) w7 (Nat.le_refl _) 100 ord5 Zj7 (by decide) #[.int .i64 0, .bool false, .int .i64 0, .int .i64 1, .bool false, .int .i64 0] rfl 2 rfl).rd Zj7
 go_wp2_with fail
 refine (Zrx _ (hS7.below (by (repeat first|exact J0|assumption|(apply J1;assumption)|apply J2|apply J3|apply J4))) hk8).mono ?_
 rintro e w8 ⟨v8, rfl, hO8, hb8⟩
 obtain ⟨A8, c8, hv8⟩ : ∃ A c, v8 = .slice A 2 c := by obtain ⟨A, c, rfl⟩ := hO8.shape; exact ⟨A, c, rfl⟩
 subst hv8
 have hbw8 : Below w.heap.size w w8 := by (repeat first|exact J0|assumption|(apply J1;assumption)|apply J2|apply J3|apply J4)
 have hP8 := hO8.rd Zj7
 clear hb7 hb8 hbw6 hk8 hO8 hS7
 go_wp2_with fail
 refine (Zsc _ (hP8.below (by (repeat first|exact J0|assumption|(apply J1;assumption)|apply J2|apply J3|apply J4)))).mono ?_
 rintro e w9 ⟨v9, rfl, hO9, hb9⟩
 obtain ⟨A9, c9, hv9⟩ : ∃ A c, v9 = .slice A 2 c := by obtain ⟨A, c, rfl⟩ := hO9.shape; exact ⟨A, c, rfl⟩
 subst hv9
 have hk10 := (Zr8 (enc := plc) (sz := 3) w9 (Nat.le_refl _) 101 pln5 Zj7 (by decide) #[.int .i64 0, .bool false, .int .i64 0, .int .i64 1, .bool false, .int .i64 6] rfl 2 rfl).rd Zj7
 go_wp2_with fail
 refine (Zs9 _ ((hO9.rd Zj7).below (by (repeat first|exact J0|assumption|(apply J1;assumption)|apply J2|apply J3|apply J4))) hk10).mono ?_
 rintro e w10 ⟨rfl, hb10⟩
 have hb810 : Below w8.heap.size w8 w10 := by (repeat first|exact J0|assumption|(apply J1;assumption)|apply J2|apply J3|apply J4)
 have hbw10 := Z08 hb810 hbw8
 have hP10 := hP8.below hb810
 clear hb9 hb10 hk10 hO9 hb810
 go_wp2_with fail
 refine (Zr9 _).mono ?_
 rintro e w11 ⟨v11, rfl, hS11, hb11⟩
 go_wp2_with fail
 refine (Zry _ hS11 (hP10.below (by (repeat first|exact J0|assumption|(apply J1;assumption)|apply J2|apply J3|apply J4)))).mono ?_
 rintro e w12 ⟨rfl, hb12⟩
 go_wp2_with fail
 refine (Zrj _).mono ?_
 rintro e w13 ⟨rfl, hb13⟩
 go_wp2_with fail
 refine (Zr9 _).mono ?_
 rintro e w14 ⟨v14, rfl, hS14, hb14⟩
 go_wp2_with fail
 refine (Zrz _ hS14).mono ?_
 rintro e w15 ⟨rfl, hb15⟩
 have hB15 := Blk.new w15 35 #[.int .i64 6, .int .i64 3]
 go_wp2_with fail
 refine (Zrj _).mono ?_
 rintro e w16 ⟨rfl, hb16⟩
 go_wp2_with fail
 refine (Zr9 _).mono ?_
 rintro e w17 ⟨v17, rfl, hS17, hb17⟩
 go_wp2_with fail
 refine (Zs1 _ hS17 (hP10.below (by (repeat first|exact J0|assumption|(apply J1;assumption)|apply J2|apply J3|apply J4)))).mono ?_
 rintro e w18 ⟨rfl, hb18⟩
 go_wp2_with fail
 refine (Zrj _).mono ?_
 rintro e w19 ⟨rfl, hb19⟩
 go_wp2_with fail
 refine (Zr9 _).mono ?_
 rintro e w20 ⟨v20, rfl, hS20, hb20⟩
 go_wp2_with fail
 refine (Zs2 _ hS20 (hP10.below (by (repeat first|exact J0|assumption|(apply J1;assumption)|apply J2|apply J3|apply J4)))).mono ?_
 rintro e w21 ⟨v21, rfl, hO21, hb21⟩
 obtain ⟨A21, c21, hv21⟩ : ∃ A c, v21 = .slice A 2 c := by obtain ⟨A, c, rfl⟩ := hO21.shape; exact ⟨A, c, rfl⟩
 subst hv21
 have hB21 := hB15.below (show Below _ _ w21 by (repeat first|exact J0|assumption|(apply J1;assumption)|apply J2|apply J3|apply J4))
 have hb1021 : Below w10.heap.size w10 w21 := by (repeat first|exact J0|assumption|(apply J1;assumption)|apply J2|apply J3|apply J4)
 have hbw21 := Z08 hb1021 hbw10
 have hP21 := hP10.below hb1021
 clear hb11 hb12 hb13 hb14 hb15 hb16 hb17 hb18 hb19 hb20 hb21 hS11 hS14 hS17 hS20 hB15 hP10 hP8 hb1021 hbw8 hbw10
 go_upto_region 10 with fail
 go_wp2_with fail
 refine (Zrj _).mono ?_
 rintro e w22 ⟨rfl, hb22⟩
 go_wp2_with fail
 refine (Zr9 _).mono ?_
 rintro e w23 ⟨v23, rfl, hS23, hb23⟩
 go_wp2_with fail
 refine (Zs3 _ hS23 (hP21.below (by (repeat first|exact J0|assumption|(apply J1;assumption)|apply J2|apply J3|apply J4)))).mono ?_
 rintro e w24 ⟨rfl, hb24⟩
 have hB24 := Blk.new w24 70 #[.int .i64 11, .int .i64 12]
 go_wp2_with fail
 refine (Zrj _).mono ?_
 rintro e w25 ⟨rfl, hb25⟩
 go_wp2_with fail
 refine (Zr9 _).mono ?_
 rintro e w26 ⟨v26, rfl, hS26, hb26⟩
 go_wp2_with fail
 refine (Zs4 _ hS26 (hP21.below (by (repeat first|exact J0|assumption|(apply J1;assumption)|apply J2|apply J3|apply J4)))).mono ?_
 rintro e w27 ⟨rfl, hb27⟩
 have hB27 := Blk.new w27 27 #[.string ⟨#[98]⟩, .int .i64 2, .int .i64 3]
 go_wp2_with fail
 refine (Zr9 _).mono ?_
 rintro e w28 ⟨v28, rfl, hS28, hb28⟩
 go_wp2_with fail
 refine (Zs5 _ (hLB.below (by (repeat first|exact J0|assumption|(apply J1;assumption)|apply J2|apply J3|apply J4))) hS28 (hP21.below (by (repeat first|exact J0|assumption|(apply J1;assumption)|apply J2|apply J3|apply J4)))).mono ?_
 rintro e w29 ⟨rfl, hb29⟩
 go_wp2_with fail
 refine (Zr9 _).mono ?_
 rintro e w30 ⟨v30, rfl, hS30, hb30⟩
 go_wp2_with fail
 refine (Zs6 _ (hLB.below (by (repeat first|exact J0|assumption|(apply J1;assumption)|apply J2|apply J3|apply J4))) hS30).mono ?_
 rintro e w31 ⟨v31, rfl, hO31, hb31⟩
 obtain ⟨A31, c31, hv31⟩ : ∃ A c, v31 = .slice A 2 c := by obtain ⟨A, c, rfl⟩ := hO31.shape; exact ⟨A, c, rfl⟩
 subst hv31
 have hR31 := hB24.below (show Below _ _ w31 by (repeat first|exact J0|assumption|(apply J1;assumption)|apply J2|apply J3|apply J4))
 have hL31 := hB27.below (show Below _ _ w31 by (repeat first|exact J0|assumption|(apply J1;assumption)|apply J2|apply J3|apply J4))
 have hb2131 : Below w21.heap.size w21 w31 := by (repeat first|exact J0|assumption|(apply J1;assumption)|apply J2|apply J3|apply J4)
 have hbw31 := Z08 hb2131 hbw21
 have hP31 := hP21.below hb2131
 have hX31 := (hO21.rd Z20).below hb2131
 have hA31 := hB21.below hb2131
 have hQ31 := hO31.rd Zj7
 clear hb22 hb23 hb24 hb25 hb26 hb27 hb28 hb29 hb30 hb31 hS23 hS26 hS28 hS30 hB24 hB27 hB21 hP21 hb2131 hbw21 hO21 hO31
 go_upto_region 14 with fail
 go_wp2_with fail
 refine (Zrj _).mono ?_
 rintro e w32 ⟨rfl, hb32⟩
 go_wp2_with fail
 refine (Zr9 _).mono ?_
 rintro e w33 ⟨v33, rfl, hS33, hb33⟩
 go_wp2_with fail
 refine (Zs7 _ hS33).mono ?_
 rintro e w34 ⟨v34, rfl, hO34, hb34⟩
 obtain ⟨A34, c34, hv34⟩ : ∃ A c, v34 = .slice A 2 c := by obtain ⟨A, c, rfl⟩ := hO34.shape; exact ⟨A, c, rfl⟩
 subst hv34
 go_wp2_with fail
 refine (Zrj _).mono ?_
 rintro e w35 ⟨rfl, hb35⟩
 have hk35 := (Zr8 (enc := blc) (sz := 3) w35 (Nat.le_refl _) 27 stkB Zj8 (by decide) #[.string ⟨#[97]⟩, .int .i64 1, .int .i64 9, .string ⟨#[98]⟩, .int .i64 2, .int .i64 9] rfl 2 rfl).rd Zj8
 obtain ⟨A35, c35, e35, _, _, r35⟩ := hk35
 obtain ⟨rfl, rfl⟩ : some ⟨w35.heap.size, 0, none⟩ = A35 ∧ 2 = c35 := by simpa [stkB] using e35
 go_wp2_with fail
 refine (Zr9 _).mono ?_
 rintro e w36 ⟨v36, rfl, hS36, hb36⟩
 go_wp2_with fail
 refine (Zs8 _ (r35.below (by (repeat first|exact J0|assumption|(apply J1;assumption)|apply J2|apply J3|apply J4))) hS36).mono ?_
 rintro e w37 ⟨v37, rfl, hO37, hb37⟩
 obtain ⟨bq, oq, cq, A0, c0, A1, c1, rfl, hlq, q0, q1, hP37⟩ := Zsb hO37
 go_wp2_with fail
 refine (Zrj _).mono ?_
 rintro e w38 ⟨rfl, hb38⟩
 go_wp2_with fail
 refine (Zr9 _).mono ?_
 rintro e w39 ⟨v39, rfl, hS39, hb39⟩
 go_wp2_with fail
 refine (Zs0 _ hS39 (hP31.below (by (repeat first|exact J0|assumption|(apply J1;assumption)|apply J2|apply J3|apply J4)))).mono ?_
 rintro e w40 ⟨rfl, hb40⟩
 have hBo40 := (hO34.rd Zj7).below (show Below _ _ w40 by (repeat first|exact J0|assumption|(apply J1;assumption)|apply J2|apply J3|apply J4))
 have hb3740 : Below w37.heap.size w37 w40 := by (repeat first|exact J0|assumption|(apply J1;assumption)|apply J2|apply J3|apply J4)
 have hb3140 : Below w31.heap.size w31 w40 := by (repeat first|exact J0|assumption|(apply J1;assumption)|apply J2|apply J3|apply J4)
 have hbw40 : Below w.heap.size w w40 := Z08 hb3140 hbw31
 have hP40 := hP31.below hb3140
 have hX40 := hX31.below hb3140
 have hQ40 := hQ31.below hb3140
 have hV40 := hP37.below hb3740
 have z0 := (hb3740.cell (p := ⟨bq, oq, none⟩) hlq).trans q0
 have z1 := (hb3740.cell (p := ⟨bq, oq + 1, none⟩) hlq).trans q1
 have hlz : bq < w40.heap.size := Nat.lt_of_lt_of_le hlq hb3740.size
 have hA40 := hA31.below hb3140
 have hR40 := hR31.below hb3140
 have hL40 := hL31.below hb3140
 have fA40 := hA40.facts
 have fR40 := hR40.facts
 have fL40 := hL40.facts
 clear hb32 hb33 hb34 hb35 hb36 hb37 hb38 hb39 hb40 hS33 hS36 hS39 hO34 hO37 r35 hP37 q0 q1 hlq hA31 hR31 hL31 hP31 hX31 hQ31 hb3140 hb3740 hbw31
 have hk41 := (Zr8 (enc := bc) (sz := 3) w40 (Nat.le_refl _) 111 [((6 : Int), (0 : Int), (-1 : Int)), (7, 1, -1)] Z20 (by decide) #[.int .i64 6, .int .i64 0, .int .i64 (-1), .int .i64 7, .int .i64 1, .int .i64 (-1)] rfl 2 rfl).rd Z20
 go_wp2_with fail
 refine (Zsa _ (hX40.below (by (repeat first|exact J0|assumption|(apply J1;assumption)|apply J2|apply J3|apply J4))) hk41).mono ?_
 rintro e w41 ⟨rfl, hb41⟩
 have hb4041 : Below w40.heap.size w40 w41 := by (repeat first|exact J0|assumption|(apply J1;assumption)|apply J2|apply J3|apply J4)
 have fR41 := (hR40.below hb4041).facts
 have fL41 := (hL40.below hb4041).facts
 go_wp2_with fail
 refine (Zsc _ (hQ40.below (by (repeat first|exact J0|assumption|(apply J1;assumption)|apply J2|apply J3|apply J4)))).mono ?_
 rintro e w42 ⟨v42, rfl, hO42, hb42⟩
 go_wp2_with fail
 refine (Zsc _ (hP40.below (by (repeat first|exact J0|assumption|(apply J1;assumption)|apply J2|apply J3|apply J4)))).mono ?_
 rintro e w43 ⟨v43, rfl, hO43, hb43⟩
 go_wp2_with fail
 refine (Zs9 _ ((hO42.rd Zj7).below (by (repeat first|exact J0|assumption|(apply J1;assumption)|apply J2|apply J3|apply J4))) (hO43.rd Zj7)).mono ?_
 rintro e w44 ⟨rfl, hb44⟩
 go_wp2_with fail
 refine (Zsc _ (hBo40.below (by (repeat first|exact J0|assumption|(apply J1;assumption)|apply J2|apply J3|apply J4)))).mono ?_
 rintro e w45 ⟨v45, rfl, hO45, hb45⟩
 go_wp2_with fail
 refine (Zsc _ (hP40.below (by (repeat first|exact J0|assumption|(apply J1;assumption)|apply J2|apply J3|apply J4)))).mono ?_
 rintro e w46 ⟨v46, rfl, hO46, hb46⟩
 go_wp2_with fail
 refine (Zs9 _ ((hO45.rd Zj7).below (by (repeat first|exact J0|assumption|(apply J1;assumption)|apply J2|apply J3|apply J4))) (hO46.rd Zj7)).mono ?_
 rintro e w47 ⟨rfl, hb47⟩
 have hb4047 : Below w40.heap.size w40 w47 := by (repeat first|exact J0|assumption|(apply J1;assumption)|apply J2|apply J3|apply J4)
 have y0 := (hb4047.cell (p := ⟨bq, oq, none⟩) hlz).trans z0
 have y1 := (hb4047.cell (p := ⟨bq, oq + 1, none⟩) hlz).trans z1
 go_wp2_with fail
 refine (Zsc _ (hV40.below (by (repeat first|exact J0|assumption|(apply J1;assumption)|apply J2|apply J3|apply J4)))).mono ?_
 rintro e w48 ⟨v48, rfl, hO48, hb48⟩
 go_wp2_with fail
 refine (Zsc _ (hP40.below (by (repeat first|exact J0|assumption|(apply J1;assumption)|apply J2|apply J3|apply J4)))).mono ?_
 rintro e w49 ⟨v49, rfl, hO49, hb49⟩
 go_wp2_with fail
 refine (Zs9 _ ((hO48.rd Zj7).below (by (repeat first|exact J0|assumption|(apply J1;assumption)|apply J2|apply J3|apply J4))) (hO49.rd Zj7)).mono ?_
 rintro e w50 ⟨rfl, hb50⟩
 go_wp2
 go_ret
 exact ⟨rfl, by (repeat first|exact J0|assumption|(apply J1;assumption)|apply J2|apply J3|apply J4)⟩
end Go.Proofs.YtpcgeihemkhkjaaGreatDoor
