/- The last sound bar of the first knot that lacks three, of the program, walked. Conditions: the hole at its block, its bars within bounds; no sound bar is missing. -/
import Derived.Test.YthcnngoaijgnoaaGreatK11
import Derived.Test.YthcnngoaijgnoaaGreatRul3J
import Derived.Test.YthcnngoaijgnoaaGreatPrpJ
import Derived.Test.YthcnngoaijgnoaaGreatValJ
namespace Go.Proofs.YthcnngoaijgnoaaGreat
open Go.RowKit Go.ChangeMaps
set_option maxHeartbeats 4000000
set_option maxRecDepth 100000
attribute [local go_sem] Oper.semAt_some

theorem wpListIn_store_blk {P : Program} {F : Fence} {n : Nat} {ops : Array Oper} {rest : List Oper} {op : Oper} {a : Act} {Q : Exit → Act → World → Prop} {w : World} {g : Nat} {t : TypeId} {cs cells : Array Value} (h : Blk w g t cs) (hgd : op.guard = none) (ty : TypeId) (x y : Operand) (ho : op.op = .store ty x y)
    (hx : a.eval x = .pointer (some ⟨g, 0, none⟩)) (hy : a.eval y = .agg cells) (hsz : cells.size = cs.size) (hi : (P.info? ty).map (·.size) = some cells.size) (h1 : cells.all (·.oneCell') = true)
    (hK : ∀ W', Blk W' g t cells → Chg [g] w W' → wpListIn F n P ops Q rest (a.put op.dst undef) W') : wpListIn F n P ops Q (op :: rest) a w := by
  refine wpListIn_plain hgd fun K hK' => ?_
  obtain ⟨W', hr, h2, h3⟩ := h.store_ (P := P) ty hsz hi h1
  unfold Oper.wpIn
  refine ⟨by simp [Oper.about, ho], ?_⟩
  rw [Oper.semAt_plain F _ _ (by rw [ho]; intro c hc'; cases hc')]
  simp only [execOp, ho, hx, hy, Instr.storeAt, Instr.sureAddr, Sem.run_bind, Sem.run_pure, Result.andThen_ok, hr]
  exact hK' _ _ (hK W' h2 h3)

theorem wpListIn_pass {P : Program} {F : Fence} {n : Nat} {ops : Array Oper} {rest : List Oper} {o : Oper} {a : Act} {Q : Exit → Act → World → Prop} {w : World} (hw : Region.wanted o (yielded ops a.tmps) = false) (hF : ∀ f, F.fn f) (h : wpListIn F n P ops Q rest (a.put o.dst undef) w) : wpListIn F n P ops Q (o :: rest) a w := by
  simp only [wpListIn, hw]
  exact ⟨fun f _ => hF f, h⟩
theorem keeps_chg {B g : Nat} {t : TypeId} {cs : Array Value} {w w' : World} (hB : Blk w g t cs) (hc : Chg [g] w w') : KeepsFrom B w w' :=
  ⟨hc.size, fun k o _ hk h => (hc.block k (Array.getElem?_eq_some_iff.1 hk).1 (fun hm => by
    obtain rfl : k = g := by simpa using hm
    unfold Blk at hB
    rw [hB] at hk
    cases hk
    cases h)).trans hk⟩
theorem leg_bound {D : List Bar} (hk : ∀ b ∈ D, BarOk b) {k : Knot} (h : cnt (legsAt D k) = 3) : (-1000000 ≤ k.1 ∧ k.1 ≤ 1000000) ∧ (-1000000 ≤ k.2 ∧ k.2 ≤ 1000000) := by
  obtain ⟨a, ha, hm⟩ := legs_arm.1 (show legsAt D k ≠ noLegs from fun e => by rw [e] at h; simp [noLegs, cnt] at h)
  have := hk _ hm
  unfold BarOk at this
  obtain rfl | rfl | rfl | rfl : a = 0 ∨ a = 1 ∨ a = 2 ∨ a = 3 := by omega
  all_goals
    simp [armB] at this
    omega
theorem legs_get {D : List Bar} {k : Knot} {a : Nat} (ha : a < 4) : lget (legsAt D k) a = decide (armB k a ∈ D) := by
  obtain rfl | rfl | rfl | rfl : a = 0 ∨ a = 1 ∨ a = 2 ∨ a = 3 := by omega
  all_goals rfl
theorem lastK_snoc {D S : List Bar} : ∀ {pre : List Knot} (x : Knot), lastK D S pre = none → lastK D S (pre ++ [x]) = lastOf D S x
  | [], x, _ => by
    show (match lastOf D S x with | some b => some b | none => none) = _
    cases lastOf D S x <;> rfl
  | k :: r, x, h => by
    unfold lastK at h
    show (match lastOf D S k with | some b => some b | none => lastK D S (r ++ [x])) = _
    cases e : lastOf D S k with
    | some b => rw [e] at h; cases h
    | none => rw [e] at h; exact lastK_snoc x h
theorem lastK_prefix {D S : List Bar} {b : Bar} : ∀ {pre l : List Knot}, pre <+: l → lastK D S pre = some b → lastK D S l = some b
  | [], _, _, h => by cases h
  | k :: r, [], hp, _ => by obtain ⟨t, ht⟩ := hp; cases ht
  | k :: r, x :: l, hp, h => by
    obtain ⟨t, ht⟩ := hp
    obtain ⟨rfl, rfl⟩ : k = x ∧ r ++ t = l := by simpa using ht
    unfold lastK at h ⊢
    cases e : lastOf D S k with
    | some b' => rw [e] at h; exact h
    | none => rw [e] at h; exact lastK_prefix ⟨t, rfl⟩ h

theorem last_any (h rb rk g : Nat) (D S : List Bar) (w : World) (H : HoleAt w h rb rk D) (hM : MemAt w g S) (hk : ∀ b ∈ D, BarOk b) (hdis : ∀ b ∈ S, b ∉ D) (hlen : D.length ≤ 100000) :
    Calls Tryz.prog 153 #[.pointer (some ⟨h, 0, none⟩), .func (.func 169) #[] #[.pointer (some ⟨g, 0, none⟩)]] w (RV w (optB (lastK D S (holeK D)))) := by
  have hs : ∀ b ∈ D, Sided b := fun b hb => (hk b hb).2.2
  obtain ⟨oF, hoF⟩ : ∃ o : Obj, o = (.cells #[.func (.func 169) #[] #[.pointer (some ⟨g, 0, none⟩)]] 139) := ⟨_, rfl⟩
  obtain ⟨oB, hoB⟩ : ∃ o : Obj, o = (.cells #[.int .i64 0, .int .i64 0, .int .i64 0] 70) := ⟨_, rfl⟩
  obtain ⟨oI, hoI⟩ : ∃ o : Obj, o = (.cells #[.bool false] 4) := ⟨_, rfl⟩
  have hb3 : Below w.heap.size w (((w.alloc oF).alloc oB).alloc oI) := by (repeat (first | exact bl_refl | assumption | (apply bl_then; assumption) | refine bl_alloc ?_ _ | refine bl_drew ?_ | refine bl_drewN ?_ _))
  have hB0 : Blk (((w.alloc oF).alloc oB).alloc oI) w.heap.size 139 #[.func (.func 169) #[] #[.pointer (some ⟨g, 0, none⟩)]] := by rw [hoF]; exact ((Blk.new w _ _).alloc oB).alloc oI
  have hR2 : Blk (((w.alloc oF).alloc oB).alloc oI) (w.heap.size + 1) 70 #[.int .i64 0, .int .i64 0, .int .i64 0] := by rw [hoB]; exact (Blk.new1 w oF _ _).alloc oI
  have hR3 : Blk (((w.alloc oF).alloc oB).alloc oI) (w.heap.size + 1 + 1) 4 #[.bool false] := by rw [hoI]; exact Blk.new2 w oF oB _ _
  have H3 := H.below hb3
  have hsz0 : (((w.alloc oF).alloc oB).alloc oI).heap.size = w.heap.size + 3 := by simp
  obtain ⟨w0, hw0⟩ : ∃ w0, ((w.alloc oF).alloc oB).alloc oI = w0 := ⟨_, rfl⟩
  rw [hw0] at hb3 hB0 hR2 hR3 H3 hsz0
  subst hoF hoB hoI
  have hHlt := H.blk.lt
  have hrblt : rb < w.heap.size := by obtain ⟨_, _, hm, _⟩ := H.bars; exact hm.lt
  have hrklt : rk < w.heap.size := by obtain ⟨_, _, hm, _⟩ := H.knots; exact hm.lt
  have hN := holeK_len D
  refine (callsIn_wide (n := 6)).1 ?_
  refine callsIn_of_wp_marks Tryz.func153 rfl trivial ?_ rfl
  simp only [Tryz.ntmps153, List.size_toArray, List.length_cons, List.length_nil, Nat.reduceAdd, Nat.reduceSub, Array.replicate_succ, Array.replicate_zero, List.push_toArray, List.append_toArray, List.nil_append, List.cons_append]
  gi_wp2_with (refine ⟨trivial, ?_⟩; gi_at_call 93; refine (callsIn_wide.2 (all_any h rb rk D _ H3 hs hlen)).mono ?_; rintro e w1 ⟨bh, bl, v, rfl, hbh, hbl, hBh, hBl, hv, hb1⟩)
  clear hw0
  have h01 := hb1.size
  have hw1 : w.heap.size + 3 ≤ w1.heap.size := by omega
  have hbw1 := bl_then hb1 hb3
  have hBA := hB0.below hb1
  have hR2A := hR2.below hb1
  have hR3A := hR3.below hb1
  have hH1 := H3.below hb1
  clear hB0 hR2 hR3
  refine wpIn_rangeFunc_ownH rfl (by omega) (gf := 142) (lb := #[.pointer (some ⟨bl, 0, none⟩), .pointer (some ⟨bh, 0, none⟩)]) rfl trivial (enters_of Tryz.func142 (by kernel_rfl) rfl)
    (all_stops 5 (by omega) [] bl bh h rb rk w0.heap.size D v w1 (by simp) (by simp) (by simp) (by simp) (by simp) (by simp) hBl hBh hH1 hv) keepB_t (keepB_b (Nat.le_refl _)) (Below.refl _ _) (fun _ => rfl)
    (fun pre W => (Blk W w.heap.size 139 #[.func (.func 169) #[] #[.pointer (some ⟨g, 0, none⟩)]] ∧ Blk W (w.heap.size + 1) 70 #[.int .i64 0, .int .i64 0, .int .i64 0] ∧ Blk W (w.heap.size + 1 + 1) 4 #[.bool false]) ∧ lastK D S pre = none ∧ Below w.heap.size w W ∧ w1.heap.size ≤ W.heap.size)
    (fun c pre W => c = .ret ∧ ∃ b : Bar, lastK D S pre = some b ∧ Blk W (w.heap.size + 1) 70 #[.int .i64 b.1, .int .i64 b.2.1, .int .i64 b.2.2] ∧ Blk W (w.heap.size + 1 + 1) 4 #[.bool true] ∧ Below w.heap.size w W)
    (fun _ W W' row hs hg hr => by
      obtain ⟨⟨a1, a2, a3⟩, a4, a5, a6⟩ := hs
      exact ⟨⟨a1.grown hg (nc_blk a1 hr), a2.grown hg (nc_blk a2 hr), a3.grown hg (nc_blk a3 hr)⟩, a4, bl_grown hg a5 (fun k e => by have := (hr k e).1; omega), Nat.le_trans a6 hg.size⟩)
    (fun c _ W W' row hs hg hr => by
      obtain ⟨a0, b, a1, a2, a3, a5⟩ := hs
      exact ⟨a0, b, a1, a2.grown hg (nc_blk a2 hr), a3.grown hg (nc_blk a3 hr), bl_grown hg a5 (fun k e => by have := (hr k e).1; omega)⟩)
    ⟨⟨hBA, hR2A, hR3A⟩, rfl, hbw1, Nat.le_refl _⟩
    (fun x a' W => ∃ Bk Bl, Bx D x w1.heap.size Bk Bl W ∧ a' = { tmps := #[.pointer (some ⟨h, 0, none⟩), .func (.func 169) #[] #[.pointer (some ⟨g, 0, none⟩)], undef, .pointer (some ⟨w.heap.size, 0, none⟩), .pointer (some ⟨w.heap.size + 1, 0, none⟩), .pointer (some ⟨w.heap.size + 1 + 1, 0, none⟩), .pointer (some ⟨Bk, 0, none⟩), .pointer (some ⟨Bl, 0, none⟩), undef, undef, undef, undef, .pointer (some ⟨h, 0, none⟩), .func (.func 142) #[] #[.pointer (some ⟨bl, 0, none⟩), .pointer (some ⟨bh, 0, none⟩)], kk x, lv (legsAt D x), undef, undef, undef, undef, undef, undef, undef, undef, undef, undef, undef, undef, undef, undef, undef, undef, undef, undef, undef, undef, undef, undef, undef, undef], defers := [] })
    (fun x a' s W W' row hs hg hr => by
      obtain ⟨Bk, Bl, hX, rfl⟩ := hs
      exact ⟨Bk, Bl, Bx.own s W W' row hX hg hr, rfl⟩) ?assign ?body ?done ?stop
  case assign =>
    rintro l pre x W K ⟨⟨a1, a2, a3⟩, a4, hbw, hsz⟩ hK
    unfold encs kk lv
    gi_wp2
    have hb2 : Below W.heap.size W ((W.alloc (.cells #[.int .i64 x.1, .int .i64 x.2] 26)).alloc (.cells #[.bool (legsAt D x).1, .bool (legsAt D x).2.1, .bool (legsAt D x).2.2.1, .bool (legsAt D x).2.2.2] 107)) := by (repeat (first | exact bl_refl | assumption | (apply bl_then; assumption) | refine bl_alloc ?_ _ | refine bl_drew ?_ | refine bl_drewN ?_ _))
    exact hK _ _ (keeps_of_below hb2) (KeepB.of_below hb2 hsz) ⟨⟨a1.below hb2, a2.below hb2, a3.below hb2⟩, a4, bl_then hb2 hbw, Nat.le_trans hsz hb2.size⟩
      ⟨W.heap.size, W.heap.size + 1, ⟨(Blk.new W _ _).alloc _, Blk.new1 W _ _ _, hsz, by omega⟩, rfl⟩
  case body =>
    rintro l pre ⟨kx, ky⟩ a' W _ _ ⟨⟨a1, a2, a3⟩, a4, a5, a6⟩ ⟨Bk, Bl, hX, rfl⟩ hlt
    have hXk := hX.k
    have hXl := hX.l
    have hLB := fun h => leg_bound hk (k := (kx, ky)) h
    have hSN := Lib.hid (lastK_snoc (D := D) (S := S) (kx, ky) a4)
    have hLO : Hid (lastOf D S (kx, ky) = if cnt (legsAt D (kx, ky)) = 3 then (armsL (kx, ky)).find? (hasb S) else none) := rfl
    have hGet : ∀ a, a < 4 → lget (legsAt D (kx, ky)) a = true → hasb S (armB (kx, ky) a) = false := fun a ha hm => by
      rw [legs_get ha] at hm
      rw [hasb_not]
      exact fun hin => hdis _ hin (of_decide_eq_true hm)
    obtain ⟨⟨l0, l1, l2, l3⟩, hL⟩ : ∃ L, legsAt D (kx, ky) = L := ⟨_, rfl⟩
    unfold kk lv
    simp only [hL] at hXk hXl hLB hLO hGet ⊢
    clear hL a4
    have fk := hXk.facts
    have fl := hXl.facts
    obtain ⟨q1, hq1⟩ : ∃ q, (((cnt (l0, l1, l2, l3) : Nat) : Int) != 3) = q := ⟨_, rfl⟩
    cases q1
    · have hc3 : cnt (l0, l1, l2, l3) = 3 := by
        have : ((cnt (l0, l1, l2, l3) : Nat) : Int) = 3 := by simpa using hq1
        omega
      obtain ⟨⟨hx1, hx2⟩, hy1, hy2⟩ := hLB hc3
      have HLO : Hid (lastOf D S (kx, ky) = ((armsL (kx, ky)).drop 0).find? (hasb S)) := by unfold Hid; rw [hLO.out, if_pos hc3]; rfl
      clear hLB hc3 hLO
      gi_wp2_with (refine ⟨trivial, ?_⟩; gi_at_call 81; refine (CallsIn.inRound l (callsIn_wide.2 (count_any l0 l1 l2 l3 _))).mono ?_; rintro e w3 ⟨rfl, hb3'⟩; have hXl3 := hXl.below hb3'; have fl3 := hXl3.facts)
      gi_loopw [20] (fun i wr => ∃ a : Nat, a ≤ 4 ∧ i = .int .i64 a ∧ Hid (lastOf D S (kx, ky) = ((armsL (kx, ky)).drop a).find? (hasb S)) ∧ Below W.heap.size W wr) (fun i _ => 4 - (intOf i).toNat)
      case atStart => exact ⟨0, by omega, rfl, HLO, hb3'⟩
      case round =>
        clear hXl3 fl3 fk fl hb3'
        obtain ⟨a, ha, rfl, HA, hbr⟩ := hrel
        have hXkr := hXk.below hbr
        have fkr := hXkr.facts
        have hMr : MemAt wr g S := hM.below (bl_then hbr a5)
        have a1r := a1.below hbr
        have a2r := a2.below hbr
        have a3r := a3.below hbr
        by_cases ha4 : a < 4
        · have HT : Hid (((armsL (kx, ky)).drop a).find? (hasb S) = if hasb S (armB (kx, ky) a) then some (armB (kx, ky) a) else ((armsL (kx, ky)).drop (a + 1)).find? (hasb S)) := by
            have hl4 : a < (armsL (kx, ky)).length := ha4
            unfold Hid
            rw [find_drop (hasb S) hl4, armsL_get (kx, ky) hl4]
          have hGa := hGet a ha4
          have harm := fun W' => arm_cells kx ky a ha4 ⟨hx1, hx2⟩ ⟨hy1, hy2⟩ W'
          obtain ⟨⟨bx, bY, bs⟩, hb⟩ : ∃ z, armB (kx, ky) a = z := ⟨_, rfl⟩
          obtain ⟨⟨ox, oY⟩, ho⟩ : ∃ z, armK (kx, ky) a = z := ⟨_, rfl⟩
          obtain ⟨m, hm⟩ : ∃ m, lget (l0, l1, l2, l3) a = m := ⟨_, rfl⟩
          obtain ⟨q, hq⟩ : ∃ q, hasb S (bx, bY, bs) = q := ⟨_, rfl⟩
          have hmb := fun W' h => memb_any g S bx bY bs W' h
          simp only [hb, ho] at harm HT hGa
          simp only [hq] at HT hGa hmb
          clear hb ho hq
          cases m
          · cases q
            · gi_wp2_with (first | (refine ⟨trivial, ?_⟩; gi_at_call 127; refine (CallsIn.inRound l (callsIn_wide.2 (harm _))).mono ?_; rintro e w4 ⟨rfl, hb4⟩; have a1q := a1r.below hb4; have f1q := a1q.facts) |
                (refine ⟨trivial, ?_⟩; gi_at_call 169; refine (CallsIn.inRound l (callsIn_wide.2 (hmb _ (hMr.below (by (repeat (first | exact bl_refl | assumption | (apply bl_then; assumption) | refine bl_alloc ?_ _ | refine bl_drew ?_ | refine bl_drewN ?_ _))))))).mono ?_; rintro e w5 ⟨rfl, hb5⟩))
              go_roundw
              case rel => exact ⟨a + 1, by omega, by go_num, by unfold Hid; rw [HA.out, HT.out]; rfl, by (repeat (first | exact bl_refl | assumption | (apply bl_then; assumption) | refine bl_alloc ?_ _ | refine bl_drew ?_ | refine bl_drewN ?_ _))⟩
              case measure => simp [intOf]; omega
            · gi_wp2_with (first | (refine ⟨trivial, ?_⟩; gi_at_call 127; refine (CallsIn.inRound l (callsIn_wide.2 (harm _))).mono ?_; rintro e w4 ⟨rfl, hb4⟩; have a1q := a1r.below hb4; have f1q := a1q.facts) |
                (refine ⟨trivial, ?_⟩; gi_at_call 169; refine (CallsIn.inRound l (callsIn_wide.2 (hmb _ (hMr.below (by (repeat (first | exact bl_refl | assumption | (apply bl_then; assumption) | refine bl_alloc ?_ _ | refine bl_drew ?_ | refine bl_drewN ?_ _))))))).mono ?_; rintro e w5 ⟨rfl, hb5⟩; have hBx := ((Blk.new w4 70 #[.int .i64 bx, .int .i64 bY, .int .i64 bs]).alloc (.cells #[.int .i64 ox, .int .i64 oY] 26)).below hb5; have fBx := hBx.facts; have hbr5 : Below wr.heap.size wr w5 := (by (repeat (first | exact bl_refl | assumption | (apply bl_then; assumption) | refine bl_alloc ?_ _ | refine bl_drew ?_ | refine bl_drewN ?_ _))); have a2q := a2r.below hbr5; have f2q := a2q.facts) |
                (refine wpListIn_store_blk a2q rfl _ _ _ rfl rfl rfl (by rfl) (by kernel_rfl) (by kernel_rfl) ?_; intro w6 a2s hc6; have a3s := (a3r.below hbr5).chg hc6 (by simp); have f3s := a3s.facts))
              exact ⟨(keeps_of_below (bl_then hbr5 hbr)).trans ((keeps_chg a2q hc6).trans (keeps_set a3s 0 _)), rfl, (bx, bY, bs), by rw [hSN.out, HA.out, HT.out]; rfl, a2s.far (by simp) _, a3s.set_ 0 _, bl_set (chg_bl (bl_then hbr5 (bl_then hbr a5)) hc6 (by omega)) (by simp; omega) _⟩
          · obtain rfl : q = false := hGa hm
            gi_wp2_with (first | (refine ⟨trivial, ?_⟩; gi_at_call 127; refine (CallsIn.inRound l (callsIn_wide.2 (harm _))).mono ?_; rintro e w4 ⟨rfl, hb4⟩) | (refine wpListIn_pass (by rfl) (fun _ => trivial) ?_))
            go_roundw
            case rel => exact ⟨a + 1, by omega, by go_num, by unfold Hid; rw [HA.out, HT.out]; rfl, by (repeat (first | exact bl_refl | assumption | (apply bl_then; assumption) | refine bl_alloc ?_ _ | refine bl_drew ?_ | refine bl_drewN ?_ _))⟩
            case measure => simp [intOf]; omega
        · have hz : lastOf D S (kx, ky) = none := by
            obtain rfl : a = 4 := by omega
            exact HA.out
          gi_wp2
          exact ⟨keeps_of_below hbr, KeepB.of_below hbr a6, ⟨a1r, a2r, a3r⟩, by rw [hSN.out]; exact hz, bl_then hbr a5, Nat.le_trans a6 hbr.size⟩
    · have hc3 : Hid (lastOf D S (kx, ky) = none) := by
        unfold Hid
        rw [hLO.out, if_neg]
        intro e
        rw [e] at hq1
        cases hq1
      gi_wp2_with (refine ⟨trivial, ?_⟩; gi_at_call 81; refine (CallsIn.inRound l (callsIn_wide.2 (count_any l0 l1 l2 l3 _))).mono ?_; rintro e w3 ⟨rfl, hb3'⟩)
      exact ⟨keeps_of_below hb3', KeepB.of_below hb3' a6, ⟨a1.below hb3', a2.below hb3', a3.below hb3'⟩, by rw [hSN.out]; exact hc3.out, bl_then hb3' a5, Nat.le_trans a6 hb3'.size⟩
  case done =>
    rintro D' ys W hD rfl ⟨⟨a1, a2, a3⟩, a4, a5, a6⟩ hK
    have f2 := a2.facts
    have f3 := a3.facts
    gi_wp2_with (refine wpListIn_store_blk a2 rfl _ _ _ rfl rfl rfl (by rfl) (by kernel_rfl) (by kernel_rfl) ?_; intro w6 a2s hc6; have a3s := a3.chg hc6 (by simp); have f3s := a3s.facts)
    have hK6 : w6.heap[D']? = some (.deferred (some [])) := (hc6.block D' (Array.getElem?_eq_some_iff.1 hK).1 (fun hm => by
      obtain rfl : D' = w.heap.size + 1 := by simpa using hm
      omega)).trans hK
    have hK2 := (KeepsOthers.setCell w6 ⟨w.heap.size + 1 + 1, 0, none⟩ (.bool false)).same D' _ hK6 rfl
    refine ⟨by simp, .inl ⟨_, _, rfl, run_takeDeferred hK2, ?_⟩⟩
    have b2 := (a2s.far (p := ⟨w.heap.size + 1 + 1, 0, none⟩) (by simp) (.bool false)).putDef hK2 (.deferred none)
    have b3 := (a3s.set_ 0 (.bool false)).putDef hK2 (.deferred none)
    have g2 := b2.facts
    have g3 := b3.facts
    have hbE := below_putDef (bl_set (chg_bl a5 hc6 (by omega)) (p := ⟨w.heap.size + 1 + 1, 0, none⟩) (by simp; omega) (.bool false)) hK2 (by omega) (.deferred none)
    exact ⟨.tuple #[.agg #[.int .i64 0, .int .i64 0, .int .i64 0], .bool false], by simp [results, Tryz.results153, go_sem, g2, g3], by rw [a4]; rfl, hbE⟩
  case stop =>
    rintro D' c pre W hD hp ⟨rfl, b, a1, a2, a3, a5⟩ hK
    have f2 := a2.facts
    have f3 := a3.facts
    gi_wp2
    refine ⟨by simp, .inl ⟨_, _, rfl, run_takeDeferred hK, ?_⟩⟩
    have b2 := a2.putDef hK (.deferred none)
    have b3 := a3.putDef hK (.deferred none)
    have g2 := b2.facts
    have g3 := b3.facts
    have hbE := below_putDef a5 hK (by omega) (.deferred none)
    have hso : lastK D S (holeK D) = some b := lastK_prefix hp a1
    exact ⟨.tuple #[.agg #[.int .i64 b.1, .int .i64 b.2.1, .int .i64 b.2.2], .bool true], by simp [results, Tryz.results153, go_sem, g2, g3], by rw [hso]; rfl, hbE⟩
end Go.Proofs.YthcnngoaijgnoaaGreat
