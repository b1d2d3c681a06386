/- A bar is put into the hole or taken out, walked. Conditions: the bar within 200000, its side 1 or -1. -/
import Derived.Test.YtpompeancmonbaaGreatE06
import Derived.Laws.OwnMore
import Derived.Laws.AppendOwnNone
import Derived.OwnWalk
namespace Go.Proofs.YtpompeancmonbaaGreat
open Go.RowKit Go.ChangeMaps
set_option maxHeartbeats 4000000
set_option maxRecDepth 100000

/-- the knots' legs when the first j ends of b have been set -/
def midLegs (D : List Bar) (b : Bar) (m : Bool) (j : Nat) (k : Knot) : Option Legs :=
  if (0 < j ∧ k = lowK b) ∨ (1 < j ∧ k = uppK b) then legsO (dset D b m) k else legsO D k
theorem zero_legs (w : World) : (zeroValue 106).run Tryz.prog w = .ok (.agg #[.bool false, .bool false, .bool false, .bool false]) w := by kernel_rfl
theorem und_knots : Tryz.prog.underlying 120 = some (.map 32 106) := by kernel_rfl
theorem und_bars : Tryz.prog.underlying 119 = some (.map 46 4) := by kernel_rfl
theorem look_legs {w : World} {rk : Nat} {mk : List (Knot × Legs × Nat)} {ck : Nat} (h : MapAt kk lv w rk mk ck) (x y : Int) :
    (Instr.lookup 120 (.map (some rk)) (.agg #[.int .i64 x, .int .i64 y]) false).run Tryz.prog w =
      .ok (lv ((mget (x, y) mk).getD noLegs)) w := by
  have := h.look knot_key und_knots (zero_legs w) (x, y)
  refine this.trans ?_
  cases mget (x, y) mk <;> rfl

def lcs (l : Legs) : Array Value := #[.bool l.1, .bool l.2.1, .bool l.2.2.1, .bool l.2.2.2]
theorem lcs_get {l : Legs} {a : Nat} (ha : a < 4) : (lcs l)[a]? = some (.bool (lget l a)) := by
  obtain rfl | rfl | rfl | rfl : a = 0 ∨ a = 1 ∨ a = 2 ∨ a = 3 := by omega
  all_goals rfl
theorem lupd_hit {k : Knot} {b : Bar} {m : Bool} {a : Nat} {L : Legs} (ha : a < 4) (h : armB k a = b) : (lcs (lupd k b m a L)).setIfInBounds a (.bool m) = lcs (lupd k b m (a + 1) L) := by
  obtain rfl | rfl | rfl | rfl : a = 0 ∨ a = 1 ∨ a = 2 ∨ a = 3 := by omega
  all_goals simp [lcs, lupd, h]
theorem lupd_miss {k : Knot} {b : Bar} {m : Bool} {a : Nat} {L : Legs} (ha : a < 4) (h : armB k a ≠ b) : lupd k b m (a + 1) L = lupd k b m a L := by
  obtain rfl | rfl | rfl | rfl : a = 0 ∨ a = 1 ∨ a = 2 ∨ a = 3 := by omega
  all_goals simp [lupd, h]
theorem arm_cells (x y : Int) (a : Nat) (ha : a < 4) (hx : -1000000 ≤ x ∧ x ≤ 1000000) (hy : -1000000 ≤ y ∧ y ≤ 1000000) (w : World) :
    Calls Tryz.prog 129 #[.agg #[.int .i64 x, .int .i64 y], .int .i64 a] w (RV w (.tuple #[.agg #[.int .i64 (armB (x, y) a).1, .int .i64 (armB (x, y) a).2.1, .int .i64 (armB (x, y) a).2.2], .agg #[.int .i64 (armK (x, y) a).1, .int .i64 (armK (x, y) a).2]])) :=
  arm_any x y a ha hx hy w

theorem mid_succ (D : List Bar) (b : Bar) (m : Bool) {j : Nat} (hj : j < 2) {kj : Knot} (hk : kj = if j = 0 then lowK b else uppK b) (k : Knot) :
    midLegs D b m (j + 1) k = if k = kj then legsO (dset D b m) k else midLegs D b m j k := by
  unfold midLegs
  subst hk
  obtain rfl | rfl : j = 0 ∨ j = 1 := by omega
  · simp
  · have h2 := low_ne_upp b
    simp
    by_cases h : k = lowK b
    · subst h
      simp [h2]
    · simp [h]
theorem mid_put {D : List Bar} {b : Bar} {m : Bool} {j : Nat} (hj : j < 2) {kj : Knot} (hk : kj = if j = 0 then lowK b else uppK b) {L : Legs} (hL : legsAt (dset D b m) kj = L) (hne : L ≠ noLegs) {mk : List (Knot × Legs × Nat)} {ck : Nat}
    (g : ∀ k, mget k mk = midLegs D b m j k) : Hid (∀ k, mget k (mput kj L ck mk) = midLegs D b m (j + 1) k) := fun k => by
  rw [mget_put, mid_succ D b m hj hk, g k]
  by_cases h : k = kj
  · subst h
    rw [if_pos rfl, if_pos rfl]
    unfold legsO
    rw [hL, if_neg hne]
  · rw [if_neg h, if_neg h]
theorem mid_del {D : List Bar} {b : Bar} {m : Bool} {j : Nat} (hj : j < 2) {kj : Knot} (hk : kj = if j = 0 then lowK b else uppK b) {L : Legs} (hL : legsAt (dset D b m) kj = L) (hz : L = noLegs) {mk : List (Knot × Legs × Nat)} {ck : Nat} (ok : MOk mk ck)
    (g : ∀ k, mget k mk = midLegs D b m j k) : Hid (∀ k, mget k (mdel kj (mput kj L ck mk)) = midLegs D b m (j + 1) k) := fun k => by
  rw [mget_del _ _ (ok.put kj L).keys, mget_put, mid_succ D b m hj hk, g k]
  by_cases h : k = kj
  · subst h
    rw [if_pos rfl, if_pos rfl]
    unfold legsO
    rw [hL, if_pos hz]
  · rw [if_neg h, if_neg h, if_neg h]
theorem mid_two {D : List Bar} (hn : D.Nodup) (b : Bar) (m : Bool) (k : Knot) : midLegs D b m 2 k = legsO (dset D b m) k := by
  unfold midLegs
  by_cases h : k = lowK b ∨ k = uppK b
  · rw [if_pos (by simpa using h)]
  · rw [if_neg (by simpa using h)]
    unfold legsO
    rw [legsAt_other hn (fun e => h (.inl e)) (fun e => h (.inr e))]
theorem mkeys_length {κ ν : Type} (m : List (κ × ν × Nat)) : (mkeys m).length = m.length := by simp [mkeys]
theorem bars_put {D : List Bar} (hn : D.Nodup) {mb : List (Bar × Bool × Nat)} {cb : Nat} (g : ∀ b, mget b mb = if b ∈ D then some true else none) (hl : mb.length = D.length) (b : Bar) :
    (∀ x, mget x (mput b true cb mb) = if x ∈ dset D b true then some true else none) ∧ (mput b true cb mb).length = (dset D b true).length := by
  have hm : b ∈ mkeys mb ↔ b ∈ D := by
    have h1 := @mget_none _ _ _ b mb
    rw [g b] at h1
    by_cases h : b ∈ D <;> simp [h] at h1 ⊢ <;> exact h1
  refine ⟨fun x => ?_, ?_⟩
  · rw [mget_put, g x]
    by_cases h : x = b
    · rw [if_pos h, if_pos ((dset_mem hn b x true).2 (by simp [h]))]
    · rw [if_neg h]
      by_cases hx : x ∈ D
      · rw [if_pos hx, if_pos ((dset_mem hn b x true).2 (by simp [h, hx]))]
      · rw [if_neg hx, if_neg (fun e => hx (by simpa [h] using (dset_mem hn b x true).1 e))]
  · rw [← mkeys_length, mkeys_put, dset, if_pos rfl]
    by_cases hx : b ∈ D
    · rw [if_pos (hm.2 hx), if_pos hx, mkeys_length, hl]
    · rw [if_neg (fun e => hx (hm.1 e)), if_neg hx]
      simp [mkeys_length, hl]
theorem bars_del {D : List Bar} (hn : D.Nodup) {mb : List (Bar × Bool × Nat)} {cb : Nat} (ok : MOk mb cb) (g : ∀ b, mget b mb = if b ∈ D then some true else none) (hl : mb.length = D.length) (b : Bar) :
    (∀ x, mget x (mdel b mb) = if x ∈ dset D b false then some true else none) ∧ (mdel b mb).length = (dset D b false).length := by
  have hm : b ∈ mkeys mb ↔ b ∈ D := by
    have h1 := @mget_none _ _ _ b mb
    rw [g b] at h1
    by_cases h : b ∈ D <;> simp [h] at h1 ⊢ <;> exact h1
  refine ⟨fun x => ?_, ?_⟩
  · rw [mget_del _ _ ok.keys, g x]
    by_cases h : x = b
    · rw [if_pos h, if_neg (fun e => by simpa [h] using (dset_mem hn b x false).1 e)]
    · rw [if_neg h]
      by_cases hx : x ∈ D
      · rw [if_pos hx, if_pos ((dset_mem hn b x false).2 (by simp [h, hx]))]
      · rw [if_neg hx, if_neg (fun e => hx (by simpa [h] using (dset_mem hn b x false).1 e))]
  · rw [← mkeys_length, mkeys_del, dset, if_neg (by simp)]
    by_cases hx : b ∈ D
    · have h1 := @List.length_erase_of_mem _ instBEqOfDecidableEq _ b (mkeys mb) (hm.2 hx)
      rw [mkeys_length, hl] at h1
      exact h1.trans (List.length_erase_of_mem hx).symm
    · have h1 := congrArg List.length (@List.erase_of_not_mem _ instBEqOfDecidableEq _ b (mkeys mb) (mt hm.1 hx))
      rw [mkeys_length, hl] at h1
      exact h1.trans (by rw [List.erase_of_not_mem hx])

theorem set_any (h rb rk : Nat) (D : List Bar) (x y s : Int) (m : Bool) (w : World) (H : HoleAt w h rb rk D) (hx : -200000 ≤ x ∧ x ≤ 200000) (hy : -200000 ≤ y ∧ y ≤ 200000) (hs : s = 1 ∨ s = -1) :
    Calls Tryz.prog 95 #[.pointer (some ⟨h, 0, none⟩), .agg #[.int .i64 x, .int .i64 y, .int .i64 s], .bool m] w
      fun e w' => e = .returned (.tuple #[]) ∧ HoleAt w' h rb rk (dset D (x, y, s) m) ∧ Chg [rb, rk] w w' := by
  obtain ⟨hB, ⟨mb, cb, hmb, okb, gb, lb⟩, ⟨mk, ck, hmk, okk, gk⟩, hn, hap⟩ := H
  have hB0 := Blk.new w 46 #[.int .i64 x, .int .i64 y, .int .i64 s]
  have hs' : -10 ≤ s ∧ s ≤ 10 := by omega
  go_enter Tryz.func95, Tryz.ntmps95
  go_wp2_with (go_at_call 132; refine (mends_any _ _ _ (by omega) (by omega) hs' _).mono ?_; rintro e w1 ⟨rfl, hb1⟩; (first | replace hB0 := hB0.st0 hb1 | replace hB0 := hB0.st1 hb1 | replace hB0 := hB0.std hb1 | replace hB0 := hB0.std1 hb1 | replace hB0 := hB0.st2 hb1 | replace hB0 := hB0.std2 hb1 | replace hB0 := hB0.st3 hb1); have kB0 := hB0.facts; (first | replace hB := hB.st0 hb1 | replace hB := hB.st1 hb1 | replace hB := hB.std hb1 | replace hB := hB.std1 hb1 | replace hB := hB.st2 hb1 | replace hB := hB.std2 hb1 | replace hB := hB.st3 hb1); have kB := hB.facts)
  have hmb1 := hmb.below (bl_a hb1)
  have hmk1 := hmk.below (bl_a hb1)
  have hc1 : Chg [rb, rk] w w1 := Chg.of_below (bl_a hb1)
  clear hmb hmk hb1
  have gk0 : Hid (∀ k, mget k mk = midLegs D (x, y, s) m 0 k) := fun k => by rw [gk k]; simp [midLegs]
  clear gk
  have GB := Lib.hid gb
  have OB := Lib.hid okb
  clear gb okb
  go_loopw [14] (fun i wr => ∃ j : Nat, j ≤ 2 ∧ i = .int .i64 j ∧ Blk wr w.heap.size 46 #[.int .i64 x, .int .i64 y, .int .i64 s] ∧ Blk wr h 122 #[.map (some rb), .map (some rk)] ∧ MapAt bk yes wr rb mb cb ∧ Chg [rb, rk] w wr ∧
      ∃ mk ck, MapAt kk lv wr rk mk ck ∧ MOk mk ck ∧ Hid (∀ k, mget k mk = midLegs D (x, y, s) m j k)) (fun i _ => 2 - (intOf i).toNat)
  case atStart => exact ⟨0, by omega, rfl, hB0, hB, hmb1, hc1, mk, ck, hmk1, okk, gk0⟩
  case round =>
    clear kB kB0 hmk1 hmb1 hc1 hB hB0 gk0 okk
    obtain ⟨j, hj, rfl, hB0, hB, hmb, hch, mk, ck, hmk, okk, gk⟩ := hrel
    have OK := Lib.hid okk
    clear okk
    by_cases hlt : j < 2
    · obtain ⟨kx, ky, hkk, hkb, hidx⟩ : ∃ kx ky : Int, Hid ((kx, ky) = (if j = 0 then lowK (x, y, s) else uppK (x, y, s))) ∧ (-1000000 ≤ kx ∧ kx ≤ 1000000 ∧ -1000000 ≤ ky ∧ ky ≤ 1000000) ∧
          ∀ W, (Instr.index 115 (.agg #[.int .i64 x, .int .i64 y, .int .i64 (x + s), .int .i64 (y + 1)]) (.int .i64 (j : Int))).run Tryz.prog W = .ok (.agg #[.int .i64 kx, .int .i64 ky]) W := by
        obtain rfl | rfl : j = 0 ∨ j = 1 := by omega
        · exact ⟨x, y, rfl, by omega, fun W => idx_ends0 x y (x + s) (y + 1) W⟩
        · exact ⟨x + s, y + 1, rfl, by omega, fun W => idx_ends1 x y (x + s) (y + 1) W⟩
      have fB0 := hB0.facts
      have fB := hB.facts
      have hBk := Blk.new wr 32 #[.int .i64 kx, .int .i64 ky]
      have hC : Ctx w (wr.alloc (.cells #[.int .i64 kx, .int .i64 ky] 32)) h rb rk w.heap.size wr.heap.size x y s kx ky mb cb mk ck :=
        ⟨hB.alloc _, hB0.alloc _, hBk, hmb.alloc _, hmk.alloc _, hch.alloc _⟩
      have fBa := (hB.alloc (.cells #[.int .i64 kx, .int .i64 ky] 32)).facts
      obtain ⟨L, hL⟩ : ∃ L, (mget (kx, ky) mk).getD noLegs = L := ⟨_, rfl⟩
      have hlook : ∀ g : Bel (wr.alloc (.cells #[.int .i64 kx, .int .i64 ky] 32)).heap.size (wr.alloc (.cells #[.int .i64 kx, .int .i64 ky] 32)),
          (Instr.lookup 120 (.map (some rk)) (.agg #[.int .i64 kx, .int .i64 ky]) false).run Tryz.prog g.val = .ok (.agg #[.bool L.1, .bool L.2.1, .bool L.2.2.1, .bool L.2.2.2]) g.val := fun g => by
        rw [look_legs ((hmk.alloc _).below g.below) kx ky, hL]; rfl
      have HL := Lib.hid hL
      clear hL
      go_wp2
      refine wp_region_ords [0, 1, 2, 3, 4, 5] [(6, false)] [7] (by kernel_rfl) (by kernel_rfl) (fun d _ _ _ _ h => by cases d <;> exact h) ?_
      simp only [List.map_cons, List.map_nil, List.getD_cons_zero, List.getD_cons_succ]
      repeat (go_big_quiet_step (fail))
      refine wpQuiet_nil ?_
      clear hlook
      refine wpMid_run rfl (fun K hK => ?_)
      go_simp
      refine hK _ _ (by (repeat (first | exact bl_refl | assumption | (apply bl_then; assumption) | refine bl_alloc ?_ _ | refine bl_drew ?_ | refine bl_drewN ?_ _))) ?_
      clear hK K
      refine wpMid_nil ?_
      go_wp2
      have hCs : w.heap.size ≤ wr.heap.size := hch.size
      obtain ⟨wo, rfl⟩ : ∃ wo : World, wo = wr := ⟨_, rfl⟩
      go_loopw [23] (fun i ws => ∃ a : Nat, a ≤ 4 ∧ i = .int .i64 a ∧ Ctx w ws h rb rk w.heap.size wo.heap.size x y s kx ky mb cb mk ck ∧ Blk ws (wo.heap.size + 1) 106 (lcs (lupd (kx, ky) (x, y, s) m a L))) (fun i _ => 4 - (intOf i).toNat)
      case atStart =>
        refine ⟨0, by omega, rfl, (hC.below (bl_drew (bl_alloc bl_refl _))), ?_⟩
        rw [lupd_zero]
        have := Blk.new (wo.alloc (.cells #[.int .i64 kx, .int .i64 ky] 32)) 106 (lcs L)
        simpa [lcs] using this.drew
      case round =>
        clear hC hBk fB fB0 fBa hB hB0 hmb hmk hch
        obtain ⟨a, ha, rfl, hC, hBl⟩ := hrel
        have fBo := hC.box.facts
        have fBk := hC.kbox.facts
        have fBl := hBl.facts
        by_cases hlt4 : a < 4
        · obtain ⟨g, hg⟩ : ∃ g, beqB (armB (kx, ky) a).1 (armB (kx, ky) a).2.1 (armB (kx, ky) a).2.2 x y s = g := ⟨_, rfl⟩
          go_wp2_with fail
          refine (arm_cells kx ky a hlt4 (by omega) (by omega) _).mono ?_
          rintro e w2 ⟨rfl, hb2⟩
          replace hC := hC.below hb2
          replace hBl := hBl.below hb2
          clear fBo fBk fBl
          have fBo := hC.box.facts
          have fBk := hC.kbox.facts
          have fBl := hBl.facts
          have hwl : w.heap.size ≤ wo.heap.size + 1 := by have := hCs; omega
          cases g
          · have hN : Hid (lupd (kx, ky) (x, y, s) m (a + 1) L = lupd (kx, ky) (x, y, s) m a L) := lupd_miss hlt4 (fun e => (Bool.eq_false_iff.1 hg) (beqB_true.2 e))
            go_wp2
            go_roundw
            case rel => exact ⟨a + 1, by omega, by go_num, (hC.below (by (repeat (first | exact bl_refl | assumption | (apply bl_then; assumption) | refine bl_alloc ?_ _ | refine bl_drew ?_ | refine bl_drewN ?_ _)))), by rw [hN.out]; exact hBl.below (by (repeat (first | exact bl_refl | assumption | (apply bl_then; assumption) | refine bl_alloc ?_ _ | refine bl_drew ?_ | refine bl_drewN ?_ _)))⟩
            case measure => simp [intOf]; omega
          · have hN := lupd_hit (m := m) (L := L) hlt4 (beqB_true.1 hg)
            have HN := Lib.hid hN
            clear hN
            have hla := lcs_get (l := lupd (kx, ky) (x, y, s) m a L) hlt4
            go_wp2
            go_roundw
            case rel => exact ⟨a + 1, by omega, by go_num, ((hC.set (p := ⟨wo.heap.size + 1, a, none⟩) hBl hwl (by decide) (by decide) (by decide) _).below (by (repeat (first | exact bl_refl | assumption | (apply bl_then; assumption) | refine bl_alloc ?_ _ | refine bl_drew ?_ | refine bl_drewN ?_ _)))), by rw [← HN.out]; exact (hBl.set_ a _).below (by (repeat (first | exact bl_refl | assumption | (apply bl_then; assumption) | refine bl_alloc ?_ _ | refine bl_drew ?_ | refine bl_drewN ?_ _)))⟩
            case measure => simp [intOf]; omega
        · obtain rfl : a = 4 := by omega
          obtain ⟨L2, hL2⟩ : ∃ L2, legsAt (dset D (x, y, s) m) (kx, ky) = L2 := ⟨_, rfl⟩
          have hmid : midLegs D (x, y, s) m j (kx, ky) = legsO D (kx, ky) := by
            unfold midLegs
            rw [if_neg]
            rw [hkk.out]
            rintro (⟨h1, h2⟩ | ⟨h1, h2⟩)
            · rw [if_neg (by omega)] at h2; exact low_ne_upp _ h2.symm
            · omega
          have hLL : lupd (kx, ky) (x, y, s) m 4 L = L2 := by
            rw [← HL.out, gk.out (kx, ky), hmid, legsO_getD, lupd_four hn, hL2]
          rw [hLL] at hBl
          have HLL := Lib.hid hL2
          clear hLL hmid hL2 fBl
          have fBl := hBl.facts
          have fBh := hC.hole.facts
          obtain ⟨w3, hput, hmk3, hch3⟩ := hC.drew.mapK.put_ knot_key und_knots (kx, ky) L2
          have hput' : (Instr.mapUpdate 120 (.map (some rk)) (.agg #[.int .i64 kx, .int .i64 ky]) (.agg #[.bool L2.1, .bool L2.2.1, .bool L2.2.2.1, .bool L2.2.2.2])).run Tryz.prog wr.drew = .ok () w3 := hput
          have hla : (lcs L2)[0]? = some (.bool L2.1) ∧ (lcs L2)[1]? = some (.bool L2.2.1) ∧ (lcs L2)[2]? = some (.bool L2.2.2.1) ∧ (lcs L2)[3]? = some (.bool L2.2.2.2) := ⟨rfl, rfl, rfl, rfl⟩
          clear hput
          have hC3 := hC.drew.knots hap hch3 hmk3
          have hBl3 := hBl.drew.chg hch3 (by simp [blk_ne_map hBl hC.mapK])
          have fBo3 := hC3.box.facts
          have fBk3 := hC3.kbox.facts
          have fBl3 := hBl3.facts
          have fBh3 := hC3.hole.facts
          go_wp2
          refine wp_region_ords [0, 1, 2, 3, 4, 5] [] [6] (by kernel_rfl) (by kernel_rfl) (fun d _ _ _ _ h => by cases d <;> exact h) ?_
          simp only [List.map_cons, List.map_nil, List.getD_cons_zero, List.getD_cons_succ]
          repeat (go_big_quiet_step (fail))
          refine wpQuiet_nil ?_
          refine wpMid_nil ?_
          obtain ⟨g, hg⟩ : ∃ g, (((cnt (L2.1, L2.2.1, L2.2.2.1, L2.2.2.2) : Nat) : Int) == 0) = g := ⟨_, rfl⟩
          go_wp2_with fail
          refine (count_any L2.1 L2.2.1 L2.2.2.1 L2.2.2.2 _).mono ?_
          rintro e w4 ⟨rfl, hb4⟩
          have hC4 := hC3.below hb4
          have fBh4 := hC4.hole.facts
          have fBk4 := hC4.kbox.facts
          clear fBo fBk fBl fBo3 fBl3 fBh3 fBk3
          have hk0 := hkk.out
          cases g
          · have hne : L2 ≠ noLegs := fun e => by rw [e] at hg; cases hg
            go_wp2
            go_roundw
            case rel => exact ⟨j + 1, by omega, by go_num, hC4.box, hC4.hole, hC4.mapB, hC4.chg, _, _, hC4.mapK, OK.out.put _ _, mid_put hlt hk0 HLL.out hne gk.out⟩
            case measure => simp [intOf]; omega
          · have hz : L2 = noLegs := cnt_zero.1 (by simpa using hg)
            obtain ⟨w5, hdel, hmk5, hch5⟩ := hC4.drew.mapK.del_ knot_key und_knots (kx, ky) 32
            have hC5 := hC4.drew.knots hap hch5 hmk5
            have hdel' : ∀ ty, (Builtin.delete_ #[120, 32] ty #[.map (some rk), .agg #[.int .i64 kx, .int .i64 ky]]).run Tryz.prog w4.drew = .ok (.tuple #[]) w5 := hdel
            go_wp2
            refine wp_region_ords [0, 1, 2, 3, 4] [] [5] (by kernel_rfl) (by kernel_rfl) (fun d _ _ _ _ h => by cases d <;> exact h) ?_
            simp only [List.map_cons, List.map_nil, List.getD_cons_zero, List.getD_cons_succ]
            repeat (go_big_quiet_step (fail))
            refine wpQuiet_nil ?_
            refine wpMid_nil ?_
            go_wp2
            go_roundw
            case rel => exact ⟨j + 1, by omega, by go_num, hC5.box, hC5.hole, hC5.mapB, hC5.chg, _, _, hC5.mapK, (OK.out.put _ _).del _, mid_del hlt hk0 HLL.out hz OK.out gk.out⟩
            case measure => simp [intOf]; omega
    · obtain rfl : j = 2 := by omega
      have gk2 : ∀ k, mget k mk = legsO (dset D (x, y, s) m) k := fun k => (gk.out k).trans (mid_two hn _ _ _)
      have fB0 := hB0.facts
      have fB := hB.facts
      have hnd := dset_nodup hn (x, y, s) m
      clear gk
      have GK := Lib.hid gk2
      clear gk2
      cases m
      · obtain ⟨w5, hdel, hmb5, hch5⟩ := hmb.drew.del_ bar_key und_bars (x, y, s) 46
        have hdel' : ∀ ty, (Builtin.delete_ #[119, 46] ty #[.map (some rb), .agg #[.int .i64 x, .int .i64 y, .int .i64 s]]).run Tryz.prog wr.drew = .ok (.tuple #[]) w5 := hdel
        clear hdel
        go_wp2
        refine wp_region_ords [0, 1, 2, 3, 4] [] [5] (by kernel_rfl) (by kernel_rfl) (fun d _ _ _ _ h => by cases d <;> exact h) ?_
        simp only [List.map_cons, List.map_nil, List.getD_cons_zero, List.getD_cons_succ]
        repeat (go_big_quiet_step (fail))
        refine wpQuiet_nil ?_
        refine wpMid_nil ?_
        go_wp2
        refine bodyPost_end (results_none Tryz.results95 _ _ _) rfl ?_
        obtain ⟨h1, h2⟩ := bars_del hn OB.out GB.out lb (x, y, s)
        exact ⟨rfl, ⟨hB.drew.chg hch5 (by simp [blk_ne_map hB hmb]), ⟨_, _, hmb5, OB.out.del _, h1, h2⟩, ⟨mk, ck, hmk.drew.chg hch5 (by simp [Ne.symm hap]), OK.out, GK.out⟩, hnd, hap⟩, hch.drew.trans (hch5.mono (by simp))⟩
      · obtain ⟨w5, hput, hmb5, hch5⟩ := hmb.drew.put_ bar_key und_bars (x, y, s) true
        have hput' : (Instr.mapUpdate 119 (.map (some rb)) (.agg #[.int .i64 x, .int .i64 y, .int .i64 s]) (.bool true)).run Tryz.prog wr.drew = .ok () w5 := hput
        clear hput
        go_wp2
        refine wp_region_ords [0, 1, 2, 3, 4] [] [5] (by kernel_rfl) (by kernel_rfl) (fun d _ _ _ _ h => by cases d <;> exact h) ?_
        simp only [List.map_cons, List.map_nil, List.getD_cons_zero, List.getD_cons_succ]
        repeat (go_big_quiet_step (fail))
        refine wpQuiet_nil ?_
        refine wpMid_nil ?_
        go_wp2
        refine bodyPost_end (results_none Tryz.results95 _ _ _) rfl ?_
        obtain ⟨h1, h2⟩ := bars_put (cb := cb) hn GB.out lb (x, y, s)
        exact ⟨rfl, ⟨hB.drew.chg hch5 (by simp [blk_ne_map hB hmb]), ⟨_, _, hmb5, OB.out.put _ _, h1, h2⟩, ⟨mk, ck, hmk.drew.chg hch5 (by simp [Ne.symm hap]), OK.out, GK.out⟩, hnd, hap⟩, hch.drew.trans (hch5.mono (by simp))⟩
end Go.Proofs.YtpompeancmonbaaGreat

/- Appends to a row of the call's own, of what another slice reads as. Conditions: the length within bounds. -/
namespace Go.Proofs.YtpompeancmonbaaGreat
open Go.RowKit
set_option maxHeartbeats 1000000
set_option maxRecDepth 100000

/-- what the table says of an element type -/
structure Elem (P : Program) (t e : TypeId) (sz bytes : Nat) : Prop where
  und : P.underlying t = some (.slice e)
  row : (P.info? e).map (fun i => (i.zero.map (fun z => z.cells.size), i.size, i.bytes)) = some (some sz, sz, bytes)
  pos : 0 < sz

theorem bar_elem : Elem Tryz.prog 22 46 3 24 := ⟨by kernel_rfl, by kernel_rfl, by decide⟩
theorem knot_elem : Elem Tryz.prog 41 32 2 16 := ⟨by kernel_rfl, by kernel_rfl, by decide⟩

section
variable {α : Type} {enc : α → List Value} {sz bytes : Nat} {P : Program} {t e : TypeId} {w : World}
theorem run_app (E : Elem P t e sz bytes) (henc : ∀ x, (enc x).length = sz) (hone : ∀ x, ∀ u ∈ enc x, u.oneCell' = true) (base : Nat) (ty : TypeId) (v u : Value) (l r : List α) (hown : Own enc sz base e w v l) (hu : Sl enc sz w u r)
    (h63 : l.length + r.length ≤ maxLen) (hb : (l.length + r.length) * bytes ≤ 140737488355328) (hbase : base ≤ w.heap.size) :
    ∃ v' w', (Builtin.append_ #[t, t] ty #[v, u]).run P w = .ok v' w' ∧ Own enc sz base e w' v' (l ++ r) ∧ w.grownBy w' v.ownBlock := by
  obtain ⟨hund, hrow, hpos⟩ := E
  obtain ⟨i, hi, hrow⟩ : ∃ i, P.info? e = some i ∧ (i.zero.map (fun z => z.cells.size), i.size, i.bytes) = (some sz, sz, bytes) := by
    cases h : P.info? e with
    | none => rw [h] at hrow; cases hrow
    | some i => rw [h] at hrow; exact ⟨i, rfl, Option.some.inj hrow⟩
  have h1 := congrArg Prod.fst hrow
  have h2 := congrArg (fun x => x.2.1) hrow
  have h3 := congrArg (fun x => x.2.2) hrow
  obtain ⟨z, hz, hzs⟩ : ∃ z, i.zero = some z ∧ z.cells.size = sz := by
    cases h : i.zero with
    | none => rw [h] at h1; cases h1
    | some z => rw [h] at h1; exact ⟨z, rfl, Option.some.inj h1⟩
  obtain ⟨A, c, rfl, hlc, hcm, hr⟩ := hu
  cases A with
  | some ad =>
    have hl : (r.flatMap enc).length = r.length * sz := by
      clear hr hlc hb h63
      induction r with
      | nil => simp
      | cons x r ih => simp [henc, ih, Nat.succ_mul]; omega
    obtain ⟨v', w', q1, q2, q3, _⟩ := run_append_own (P := P) w base t ty e i z sz bytes hund hi hz h2 h3 hzs hpos v l.length (l.flatMap enc) hown ad r.length c (r.flatMap enc) hl (by
      intro j u hj
      have hjl : j < r.length * sz := by rw [← hl]; exact (List.getElem?_eq_some_iff.1 hj).1
      have hk : j / sz < r.length := Nat.div_lt_of_lt_mul (by rw [Nat.mul_comm]; exact hjl)
      obtain ⟨b, off, he, hbl, hc⟩ := hr (j / sz) r[j / sz] (List.getElem?_eq_getElem hk)
      have hm : j % sz < (enc r[j / sz]).length := by rw [henc]; exact Nat.mod_lt _ hpos
      have hj' := flat_get henc r (j / sz) r[j / sz] (j % sz) _ (List.getElem?_eq_getElem hk) (List.getElem?_eq_getElem hm)
      have hdm : j / sz * sz + j % sz = j := by rw [Nat.mul_comm]; exact Nat.div_add_mod j sz
      rw [hdm, hj] at hj'
      have hcj := hc (j % sz) u (by rw [List.getElem?_eq_getElem hm]; exact hj'.symm)
      obtain rfl : ad = ⟨b, off, none⟩ := Option.some.inj he
      rw [Nat.add_assoc, hdm] at hcj
      unfold Addr.add
      split
      · rename_i h0
        subst h0
        exact hcj
      · exact hcj) (by
      intro u hu
      obtain ⟨x, hx, hux⟩ := List.mem_flatMap.1 hu
      exact hone x u hux) h63 hb hbase
    refine ⟨v', w', q1, ?_, q3⟩
    unfold Own
    simpa using q2
  | none =>
    have hr0 : r = [] := by
      cases r with
      | nil => rfl
      | cons x r =>
        obtain ⟨b, off, he, _⟩ := hr 0 x rfl
        cases he
    subst hr0
    refine ⟨v, w, ?_, by simpa using hown, World.grownBy.refl _ _⟩
    rcases hown.2 with ⟨rfl, hn⟩ | ⟨g, cap, cur, rfl, _, _, hnc, _⟩
    · simp [Builtin.append_, run_underlying hund, sizeOf, typeInfo, hi, Builtin.lenOf, Builtin.firstCells]
    · simp [Builtin.append_, run_underlying hund, sizeOf, typeInfo, hi, Builtin.lenOf, Builtin.firstCells, hnc, storeCells]

theorem wpList_app {ops : Array Oper} {rest : List Oper} {o : Oper} {a : Act} {Q : Exit → Act → World → Prop} (hgd : o.guard = none) (E : Elem P t e sz bytes) (henc : ∀ x, (enc x).length = sz) (hone : ∀ x, ∀ u ∈ enc x, u.oneCell' = true) (s x : Operand)
    (ho : o.op = .call { callee := .builtin .append, args := #[s, x], argTypes := #[t, t] }) (base : Nat) (v u : Value) (l r : List α) (hs : a.eval s = v) (hx : a.eval x = u) (hown : Own enc sz base e w v l) (hu : Sl enc sz w u r)
    (h63 : l.length + r.length ≤ maxLen) (hb : (l.length + r.length) * bytes ≤ 140737488355328) (hbase : base ≤ w.heap.size)
    (h : ∀ v' w', Own enc sz base e w' v' (l ++ r) → w.grownBy w' v.ownBlock → wpList P ops Q rest (a.put o.dst v') w') : wpList P ops Q (o :: rest) a w := by
  refine wpList_plain hgd fun K hK' => ?_
  obtain ⟨v', w', hr, h2, h3⟩ := run_app E henc hone base o.type v u l r hown hu h63 hb hbase
  unfold Oper.wp
  simp [execOp, ho, resolve, invoke, builtin, hs, hx, hr, Result.andThen]
  exact hK' _ _ (h v' w' h2 h3)
end

theorem bc_one (b : Bar) : ∀ u ∈ bc b, u.oneCell' = true := by intro u hu; simp [bc] at hu; rcases hu with rfl | rfl | rfl <;> rfl
theorem kc_one (k : Knot) : ∀ u ∈ kc k, u.oneCell' = true := by intro u hu; simp [kc] at hu; rcases hu with rfl | rfl <;> rfl
theorem own_step {α : Type} {enc : α → List Value} {sz : Nat} {e : TypeId} {w W W' w2 : World} {v : Value} {l : List α} (hown : Own enc sz w.heap.size e W v l) (hgr : W'.grownBy w2 v.ownBlock) (hb : Below w.heap.size w W') : Below w.heap.size w w2 :=
  bl_grown hgr hb fun k hk => (hown.lt k hk).1
abbrev SlB := Sl bc 3
abbrev SlK := Sl kc 2
abbrev OwB (base : Nat) := Own bc 3 base 46
abbrev OwK (base : Nat) := Own kc 2 base 32
/-- one element in a block of its own, as 'append(l, x)' lays it -/
theorem Sl.one_bar (w : World) (x y s : Int) : SlB (w.alloc (.cells #[.int .i64 x, .int .i64 y, .int .i64 s] 46)) (.slice (some ⟨w.heap.size, 0, none⟩) 1 1) [(x, y, s)] := by
  have hB := Blk.new w 46 #[.int .i64 x, .int .i64 y, .int .i64 s]
  refine ⟨_, 1, rfl, by simp, by simp [maxLen], fun i b hb => ?_⟩
  match i, hb with
  | 0, hb =>
    obtain rfl : (x, y, s) = b := by simpa using hb
    refine ⟨_, 0, rfl, hB.lt, fun j u hj => ?_⟩
    rw [hB.cell]
    simpa [bc] using hj
theorem Sl.one_knot (w : World) (x y : Int) : SlK (w.alloc (.cells #[.int .i64 x, .int .i64 y] 32)) (.slice (some ⟨w.heap.size, 0, none⟩) 1 1) [(x, y)] := by
  have hB := Blk.new w 32 #[.int .i64 x, .int .i64 y]
  refine ⟨_, 1, rfl, by simp, by simp [maxLen], fun i b hb => ?_⟩
  match i, hb with
  | 0, hb =>
    obtain rfl : (x, y) = b := by simpa using hb
    refine ⟨_, 0, rfl, hB.lt, fun j u hj => ?_⟩
    rw [hB.cell]
    simpa [kc] using hj
section
variable {ops : Array Oper} {rest : List Oper} {o : Oper} {a : Act} {Q : Exit → Act → World → Prop} {base : Nat} {W : World} {v : Value} {X Y S : Int}
theorem wpList_appB {l : List Bar} (hown : OwB base W v l) (hgd : o.guard = none) (s x : Operand) (ho : o.op = .call { callee := .builtin .append, args := #[s, x], argTypes := #[22, 22] })
    (hs : a.eval s = v) (hx : a.eval x = .slice (some ⟨W.heap.size, 0, none⟩) 1 1) (hlen : l.length ≤ 1000000) (hbase : base ≤ W.heap.size)
    (h : ∀ v' w', OwB base w' v' (l ++ [(X, Y, S)]) → (W.alloc (.cells #[.int .i64 X, .int .i64 Y, .int .i64 S] 46)).grownBy w' v.ownBlock → wpList Tryz.prog ops Q rest (a.put o.dst v') w') :
    wpList Tryz.prog ops Q (o :: rest) a (W.alloc (.cells #[.int .i64 X, .int .i64 Y, .int .i64 S] 46)) :=
  wpList_app hgd bar_elem bc_len bc_one s x ho base v _ l [(X, Y, S)] hs hx (hown.alloc _) (Sl.one_bar W X Y S) (by simp [maxLen]; omega) (by simp; omega) (by simp; omega) h
theorem wpList_appK {l : List Knot} (hown : OwK base W v l) (hgd : o.guard = none) (s x : Operand) (ho : o.op = .call { callee := .builtin .append, args := #[s, x], argTypes := #[41, 41] })
    (hs : a.eval s = v) (hx : a.eval x = .slice (some ⟨W.heap.size, 0, none⟩) 1 1) (hlen : l.length ≤ 1000000) (hbase : base ≤ W.heap.size)
    (h : ∀ v' w', OwK base w' v' (l ++ [(X, Y)]) → (W.alloc (.cells #[.int .i64 X, .int .i64 Y] 32)).grownBy w' v.ownBlock → wpList Tryz.prog ops Q rest (a.put o.dst v') w') :
    wpList Tryz.prog ops Q (o :: rest) a (W.alloc (.cells #[.int .i64 X, .int .i64 Y] 32)) :=
  wpList_app hgd knot_elem kc_len kc_one s x ho base v _ l [(X, Y)] hs hx (hown.alloc _) (Sl.one_knot W X Y) (by simp [maxLen]; omega) (by simp; omega) (by simp; omega) h
theorem wpList_appBS {w : World} {u : Value} {l r : List Bar} (hown : OwB base w v l) (hu : SlB w u r) (hgd : o.guard = none) (s x : Operand) (ho : o.op = .call { callee := .builtin .append, args := #[s, x], argTypes := #[22, 22] })
    (hs : a.eval s = v) (hx : a.eval x = u) (hlen : l.length + r.length ≤ 1000000) (hbase : base ≤ w.heap.size)
    (h : ∀ v' w', OwB base w' v' (l ++ r) → w.grownBy w' v.ownBlock → wpList Tryz.prog ops Q rest (a.put o.dst v') w') : wpList Tryz.prog ops Q (o :: rest) a w :=
  wpList_app hgd bar_elem bc_len bc_one s x ho base v u l r hs hx hown hu (by simp [maxLen]; omega) (by omega) hbase h
theorem wpList_appKS {w : World} {u : Value} {l r : List Knot} (hown : OwK base w v l) (hu : SlK w u r) (hgd : o.guard = none) (s x : Operand) (ho : o.op = .call { callee := .builtin .append, args := #[s, x], argTypes := #[41, 41] })
    (hs : a.eval s = v) (hx : a.eval x = u) (hlen : l.length + r.length ≤ 1000000) (hbase : base ≤ w.heap.size)
    (h : ∀ v' w', OwK base w' v' (l ++ r) → w.grownBy w' v.ownBlock → wpList Tryz.prog ops Q rest (a.put o.dst v') w') : wpList Tryz.prog ops Q (o :: rest) a w :=
  wpList_app hgd knot_elem kc_len kc_one s x ho base v u l r hs hx hown hu (by simp [maxLen]; omega) (by omega) hbase h
end
theorem Own.empty {α : Type} (enc : α → List Value) (sz : Nat) (w : World) (e : TypeId) : Own enc sz w.heap.size e (w.alloc (.cells #[] e)) (.slice (some ⟨w.heap.size, 0, none⟩) 0 0) ([] : List α) :=
  ⟨by simp, .inr ⟨w.heap.size, 0, #[], rfl, Nat.le_refl _, heap_alloc_new w _, Nat.le_refl _, by simp [maxLen], by simp, by simp⟩⟩
/-- the call returns a fresh row of bars .. of knots -/
def RB (w : World) (l : List Bar) (e : Ending) (w' : World) : Prop := ∃ v, e = .returned v ∧ OwB w.heap.size w' v l ∧ Below w.heap.size w w'
def RK (w : World) (l : List Knot) (e : Ending) (w' : World) : Prop := ∃ v, e = .returned v ∧ OwK w.heap.size w' v l ∧ Below w.heap.size w w'
end Go.Proofs.YtpompeancmonbaaGreat
