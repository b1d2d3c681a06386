/- A hole is made; membership of bars as a closure; the bars that are kept, walked. Conditions: the bars within bounds, each once. -/
import Derived.Test.YtpompeancmonbaaGreatE08
import Derived.Shelf.SlSortCmp.NoneTotal
namespace Go.Proofs.YtpompeancmonbaaGreat
open Go.RowKit
set_option maxHeartbeats 2000000
set_option maxRecDepth 100000

@[go_sem] theorem mk_map {P : Program} (t : TypeId) (w : World) : (Instr.makeMap t none).run P w = .ok (.map (some w.heap.size)) (w.alloc (.map #[] 0)) := rfl
theorem HoleAt.new (w : World) : HoleAt (((w.alloc (.map #[] 0)).alloc (.map #[] 0)).alloc (.cells #[.map (some w.heap.size), .map (some (w.heap.size + 1))] 122)) (w.heap.size + 1 + 1) w.heap.size (w.heap.size + 1) [] := by
  refine ⟨?_, ⟨[], 0, ?_, MOk.nil_, fun b => by simp [mget], rfl⟩, ⟨[], 0, ?_, MOk.nil_, fun k => by simp [mget, legsO, legsAt, noLegs]⟩, by simp, by omega⟩
  · exact Blk.new2 w _ _ _ _
  · exact ((MapAt.new w bk yes).alloc _).alloc _
  · have := (MapAt.new (w.alloc (.map #[] 0)) kk lv).alloc (.cells #[.map (some w.heap.size), .map (some (w.heap.size + 1))] 122)
    simpa using this
theorem mem_take_succ {α : Type} {l : List α} {k : Nat} (hk : k < l.length) (x : α) : x ∈ l.take (k + 1) ↔ x = l[k] ∨ x ∈ l.take k := by
  rw [List.take_succ_eq_append_getElem hk, List.mem_append, List.mem_singleton, or_comm]
theorem dset_take {D : List Bar} (hn : D.Nodup) {k : Nat} (hk : k < D.length) : dset (D.take k) (D[k].1, D[k].2.1, D[k].2.2) true = D.take (k + 1) := by
  have hni : D[k] ∉ D.take k := fun h => by
    obtain ⟨j, hj, he⟩ := List.mem_take_iff_getElem.1 h
    have := (List.getElem_inj hn).1 he
    omega
  unfold dset
  rw [if_pos rfl, if_neg (show ¬ (D[k].1, D[k].2.1, D[k].2.2) ∈ D.take k from hni), List.take_succ_eq_append_getElem hk]
def BarOk (b : Bar) : Prop := (-200000 ≤ b.1 ∧ b.1 ≤ 200000) ∧ (-200000 ≤ b.2.1 ∧ b.2.1 ≤ 200000) ∧ (b.2.2 = 1 ∨ b.2.2 = -1)
theorem add_any (h rb rk : Nat) (D : List Bar) (x y s : Int) (w : World) (H : HoleAt w h rb rk D) (hb : BarOk (x, y, s)) :
    Calls Tryz.prog 88 #[.pointer (some ⟨h, 0, none⟩), .agg #[.int .i64 x, .int .i64 y, .int .i64 s]] w
      fun e w' => e = .returned (.tuple #[]) ∧ HoleAt w' h rb rk (dset D (x, y, s) true) ∧ Chg [rb, rk] w w' := by
  obtain ⟨h1, h2, h3⟩ := hb
  go_enter Tryz.func88, Tryz.ntmps88
  go_wp2_with (go_at_call 95; refine (set_any h rb rk D x y s true _ (H.below (bl_alloc bl_refl _)) h1 h2 h3).mono ?_; rintro e w1 ⟨rfl, H1, hc1⟩)
  refine bodyPost_end (results_none Tryz.results88 _ _ _) rfl ?_
  exact ⟨rfl, H1, (Chg.of_below (bl_alloc bl_refl _)).trans hc1⟩

theorem newHole_any {v : Value} (D : List Bar) (w : World) (h : SlB w v D) (hn : D.Nodup) (hok : ∀ b ∈ D, BarOk b) : Calls Tryz.prog 47 #[v] w
    fun e w' => ∃ h rb rk, e = .returned (.pointer (some ⟨h, 0, none⟩)) ∧ w.heap.size ≤ h ∧ w.heap.size ≤ rb ∧ w.heap.size ≤ rk ∧ HoleAt w' h rb rk D ∧ Below w.heap.size w w' := by
  obtain ⟨A, c, rfl, hlc, hcm, h⟩ := h
  have hl : D.length ≤ maxLen := Nat.le_trans hlc hcm
  unfold maxLen at hl
  go_enter Tryz.func47, Tryz.ntmps47
  go_wp2
  go_loopw [12] (fun i wr => ∃ k : Nat, k ≤ D.length ∧ i = .int .i64 k ∧ HoleAt wr (w.heap.size + 1 + 1) w.heap.size (w.heap.size + 1) (D.take k) ∧ Below w.heap.size w wr) (fun i _ => D.length - (intOf i).toNat)
  case atStart => exact ⟨0, Nat.zero_le _, rfl, HoleAt.new w, by (repeat (first | exact bl_refl | assumption | (apply bl_then; assumption) | refine bl_alloc ?_ _ | refine bl_drew ?_ | refine bl_drewN ?_ _))⟩
  case round =>
    obtain ⟨k, hk, rfl, H, hbw⟩ := hrel
    by_cases hlt : k < D.length
    · have hr := h.below hbw
      obtain ⟨b, off, rfl, hb, e0, e1, e2⟩ := hr.bar hlt
      have HD := Lib.hid (dset_take hn hlt)
      have hbo := hok _ (List.getElem_mem hlt)
      go_wp2_with (go_at_call 88; refine (add_any _ _ _ _ _ _ _ _ (H.below (bl_alloc bl_refl _)) hbo).mono ?_; rintro e w1 ⟨rfl, H1, hc1⟩)
      have hbw1 : Below w.heap.size w w1 := ((Chg.of_below hbw).alloc _ |>.trans (hc1.mono (S' := [w.heap.size, w.heap.size + 1]) (by simp))).below (by simp) (Nat.le_refl _)
      go_roundw
      case rel => exact ⟨k + 1, by omega, by go_num, by rw [← HD.out]; exact H1, hbw1⟩
      case measure => simp [intOf]; omega
    · have hkl : k = D.length := by omega
      rw [hkl, List.take_length] at H
      go_wp2
      go_ret
      exact ⟨_, _, _, rfl, by omega, by omega, by omega, H, hbw⟩

/-- cell g holds the map of a closure that tells whether a bar is in L -/
def MemAt (w : World) (g : Nat) (L : List Bar) : Prop := ∃ r m c, Blk w g 119 #[.map (some r)] ∧ MapAt bk yes w r m c ∧ ∀ b, mget b m = if b ∈ L then some true else none
theorem MemAt.below {w w' : World} {g : Nat} {L : List Bar} (h : MemAt w g L) (hb : Below w.heap.size w w') : MemAt w' g L := by
  obtain ⟨r, m, c, h1, h2, h3⟩ := h
  exact ⟨r, m, c, h1.below hb, h2.below hb, h3⟩
theorem zero_bool (w : World) : (zeroValue 4).run Tryz.prog w = .ok (.bool false) w := by kernel_rfl
theorem memb_any (g : Nat) (L : List Bar) (x y s : Int) (w : World) (h : MemAt w g L) : Calls Tryz.prog 131 #[.agg #[.int .i64 x, .int .i64 y, .int .i64 s], .pointer (some ⟨g, 0, none⟩)] w (RV w (.bool (hasb L (x, y, s)))) := by
  obtain ⟨r, m, c, hB, hm, hg⟩ := h
  have hB1 := hB.alloc (.cells #[.int .i64 x, .int .i64 y, .int .i64 s] 46)
  have fB := hB.facts
  have fB1 := hB1.facts
  have hl : (Instr.lookup 119 (.map (some r)) (.agg #[.int .i64 x, .int .i64 y, .int .i64 s]) false).run Tryz.prog (w.alloc (.cells #[.int .i64 x, .int .i64 y, .int .i64 s] 46)) =
      .ok (.bool (hasb L (x, y, s))) (w.alloc (.cells #[.int .i64 x, .int .i64 y, .int .i64 s] 46)) := by
    have := (hm.alloc (.cells #[.int .i64 x, .int .i64 y, .int .i64 s] 46)).look bar_key und_bars (zero_bool _) (x, y, s)
    refine this.trans ?_
    rw [hg]
    unfold hasb
    by_cases h : (x, y, s) ∈ L <;> simp [h, yes]
  clear hm
  go_enter Tryz.func131, Tryz.ntmps131
  go_wp2
  go_ret
  exact ⟨rfl, by (repeat (first | exact bl_refl | assumption | (apply bl_then; assumption) | refine bl_alloc ?_ _ | refine bl_drew ?_ | refine bl_drewN ?_ _))⟩
theorem member_any {v : Value} (L : List Bar) (w : World) (h : SlB w v L) : Calls Tryz.prog 92 #[v] w
    fun e w' => ∃ g, e = .returned (.func (.func 131) #[] #[.pointer (some ⟨g, 0, none⟩)]) ∧ w.heap.size ≤ g ∧ MemAt w' g L ∧ Below w.heap.size w w' := by
  obtain ⟨A, c, rfl, hlc, hcm, h⟩ := h
  have hl : L.length ≤ maxLen := Nat.le_trans hlc hcm
  unfold maxLen at hl
  go_enter Tryz.func92, Tryz.ntmps92
  go_wp2
  go_loopw [9] (fun i wr => ∃ k : Nat, k ≤ L.length ∧ i = .int .i64 k ∧ Blk wr (w.heap.size + 1) 119 #[.map (some w.heap.size)] ∧ (∃ m c, MapAt bk yes wr w.heap.size m c ∧ MOk m c ∧ ∀ b, mget b m = if b ∈ L.take k then some true else none) ∧ Below w.heap.size w wr) (fun i _ => L.length - (intOf i).toNat)
  case atStart =>
    refine ⟨0, Nat.zero_le _, rfl, Blk.new1 w _ _ _, ⟨[], 0, (MapAt.new w bk yes).alloc _, MOk.nil_, fun b => by simp [mget]⟩, by (repeat (first | exact bl_refl | assumption | (apply bl_then; assumption) | refine bl_alloc ?_ _ | refine bl_drew ?_ | refine bl_drewN ?_ _))⟩
  case round =>
    obtain ⟨k, hk, rfl, hB, ⟨m, cm, hm, mok, gm⟩, hbw⟩ := hrel
    have fB := hB.facts
    have GM := Lib.hid gm
    have OM := Lib.hid mok
    clear gm mok
    by_cases hlt : k < L.length
    · have hr := h.below hbw
      obtain ⟨b, off, rfl, hb, e0, e1, e2⟩ := hr.bar hlt
      obtain ⟨w3, hput, hm3, hc3⟩ := (hm.alloc (.cells #[.int .i64 L[k].1, .int .i64 L[k].2.1, .int .i64 L[k].2.2] 46)).put_ bar_key und_bars L[k] true
      have hput' : (Instr.mapUpdate 119 (.map (some w.heap.size)) (.agg #[.int .i64 L[k].1, .int .i64 L[k].2.1, .int .i64 L[k].2.2]) (.bool true)).run Tryz.prog (wr.alloc (.cells #[.int .i64 L[k].1, .int .i64 L[k].2.1, .int .i64 L[k].2.2] 46)) = .ok () w3 := hput
      clear hput
      have hB3 := (hB.alloc (.cells #[.int .i64 L[k].1, .int .i64 L[k].2.1, .int .i64 L[k].2.2] 46)).chg hc3 (by simp)
      have hbw3 : Below w.heap.size w w3 := ((Chg.of_below hbw).alloc _ |>.trans hc3).below (by simp) (Nat.le_refl _)
      have hG : Hid (∀ x, mget x (mput L[k] true cm m) = if x ∈ L.take (k + 1) then some true else none) := fun x => by
        rw [mget_put, GM.out x]
        by_cases hx : x = L[k]
        · rw [if_pos hx, if_pos ((mem_take_succ hlt x).2 (.inl hx))]
        · rw [if_neg hx]
          by_cases hx2 : x ∈ L.take k
          · rw [if_pos hx2, if_pos ((mem_take_succ hlt x).2 (.inr hx2))]
          · rw [if_neg hx2, if_neg (fun e => by rcases (mem_take_succ hlt x).1 e with h | h <;> contradiction)]
      go_wp2
      go_roundw
      case rel => exact ⟨k + 1, by omega, by go_num, hB3, ⟨_, _, hm3, OM.out.put _ _, hG.out⟩, hbw3⟩
      case measure => simp [intOf]; omega
    · have hkl : k = L.length := by omega
      go_wp2
      go_ret
      rw [hkl, List.take_length] at GM
      exact ⟨_, rfl, by omega, ⟨_, _, _, hB, hm, GM.out⟩, hbw⟩

theorem without1_any (q g : Nat) (L : List Bar) (x y s : Int) (w : World) (hq : Blk w q 151 #[.func (.func 131) #[] #[.pointer (some ⟨g, 0, none⟩)]]) (h : MemAt w g L) :
    Calls Tryz.prog 94 #[.agg #[.int .i64 x, .int .i64 y, .int .i64 s], .pointer (some ⟨q, 0, none⟩)] w (RV w (.bool (!hasb L (x, y, s)))) := by
  have hq1 := hq.alloc (.cells #[.int .i64 x, .int .i64 y, .int .i64 s] 46)
  have h1 := h.below (bl_alloc bl_refl (.cells #[.int .i64 x, .int .i64 y, .int .i64 s] 46))
  have fq := hq.facts
  have fq1 := hq1.facts
  go_enter Tryz.func94, Tryz.ntmps94
  go_wp2_with (go_at_call 131; refine (memb_any g L x y s _ h1).mono ?_; rintro e w1 ⟨rfl, hb1⟩)
  go_ret
  exact ⟨rfl, by (repeat (first | exact bl_refl | assumption | (apply bl_then; assumption) | refine bl_alloc ?_ _ | refine bl_drew ?_ | refine bl_drewN ?_ _))⟩

theorem kept_without {v : Value} (cap : Value) (p : Bar → Bool) (l : List Bar) (w : World) (h : SlB w v l) (hlen : l.length ≤ 100000)
    (hf : ∀ W b, Below w.heap.size w W → Calls Tryz.prog 94 #[.agg #[.int .i64 b.1, .int .i64 b.2.1, .int .i64 b.2.2], cap] W (RV W (.bool (p b)))) :
    Calls Tryz.prog 93 #[v, .func (.func 94) #[] #[cap]] w (RB w (l.filter p)) := by
  obtain ⟨A, c, rfl, hlc, hcm, h⟩ := h
  go_enter Tryz.func93, Tryz.ntmps93
  go_wp2
  go_loopw [5, 10] (fun o i wr => ∃ k : Nat, k ≤ l.length ∧ i = .int .i64 k ∧ OwB w.heap.size wr o ((l.take k).filter p) ∧ Below w.heap.size w wr) (fun _ i _ => l.length - (intOf i).toNat)
  case atStart => exact ⟨0, Nat.zero_le _, rfl, Own.nil_, by (repeat (first | exact bl_refl | assumption | (apply bl_then; assumption) | refine bl_alloc ?_ _ | refine bl_drew ?_ | refine bl_drewN ?_ _))⟩
  case round =>
    obtain ⟨k, hk, rfl, hown, hbw⟩ := hrel
    have hwl : ((l.take k).filter p).length ≤ (l.take k).length := List.length_filter_le _ _
    have htl : (l.take k).length ≤ 100000 := by simp; omega
    by_cases hlt : k < l.length
    · have hr := h.below hbw
      obtain ⟨b, off, rfl, hb, e0, e1, e2⟩ := hr.bar hlt
      have hT : Hid ((l.take (k + 1)).filter p = (l.take k).filter p ++ if p l[k] then [l[k]] else []) := by
        rw [List.take_succ_eq_append_getElem hlt, List.filter_append]
        cases h : p l[k] <;> simp [h, Hid]
      obtain ⟨g, hg⟩ : ∃ g, p l[k] = g := ⟨_, rfl⟩
      have hb1 : Below w.heap.size w (wr.alloc (.cells #[.int .i64 l[k].1, .int .i64 l[k].2.1, .int .i64 l[k].2.2] 46)) := by (repeat (first | exact bl_refl | assumption | (apply bl_then; assumption) | refine bl_alloc ?_ _ | refine bl_drew ?_ | refine bl_drewN ?_ _))
      have hB := Blk.new wr 46 #[.int .i64 l[k].1, .int .i64 l[k].2.1, .int .i64 l[k].2.2]
      have hF := hf _ l[k] hb1
      rw [hg] at hF
      cases g
      · go_wp2_with (go_at_call 94; refine hF.mono ?_; rintro e w2 ⟨rfl, hb2⟩)
        go_roundw
        case rel => exact ⟨k + 1, by omega, by go_num, by rw [hT.out, hg]; simpa using hown.below (bl_a hb2), by (repeat (first | exact bl_refl | assumption | (apply bl_then; assumption) | refine bl_alloc ?_ _ | refine bl_drew ?_ | refine bl_drewN ?_ _))⟩
        case measure => simp [intOf]; omega
      · go_wp2_with (first | (go_at_call 94; refine hF.mono ?_; rintro e w2 ⟨rfl, hb2⟩; replace hown := hown.st1 hb2; have hBB := hB.st0 hb2; have kB := hBB.facts) | (at_builtin; refine wpList_appB hown rfl _ _ rfl rfl rfl (by omega) (Below.size (by (repeat (first | exact bl_refl | assumption | (apply bl_then; assumption) | refine bl_alloc ?_ _ | refine bl_drew ?_ | refine bl_drewN ?_ _)))) ?_; intro v3 w3 hown3 hgr3))
        have hbw3 := own_step hown hgr3 (by (repeat (first | exact bl_refl | assumption | (apply bl_then; assumption) | refine bl_alloc ?_ _ | refine bl_drew ?_ | refine bl_drewN ?_ _)))
        go_roundw
        case rel => exact ⟨k + 1, by omega, by go_num, by rw [hT.out, hg]; exact hown3, hbw3⟩
        case measure => simp [intOf]; omega
    · have hkl : k = l.length := by omega
      go_wp2
      go_ret
      exact ⟨_, rfl, by rw [hkl, List.take_length] at hown; exact hown, by (repeat (first | exact bl_refl | assumption | (apply bl_then; assumption) | refine bl_alloc ?_ _ | refine bl_drew ?_ | refine bl_drewN ?_ _))⟩
end Go.Proofs.YtpompeancmonbaaGreat

/- The program's bars without others, and its check of a torn net, walked; what a net without an error is, plain. Conditions: the slices read as lists. -/
namespace Go.Proofs.YtpompeancmonbaaGreat
open Go.RowKit
set_option maxHeartbeats 2000000
set_option maxRecDepth 100000

@[go_sem] theorem store_func (P : Program) (w : World) (p : Addr) (f : Fn) (a b : Array Value) : (store p (.func f a b)).run P w = match w.cell? p with
      | some _ => if w.frozen? p then .halt (.unsupported (.unsafePointer "a write to bytes that a string shares")) w else .ok () (w.setCell p (.func f a b))
      | none => match w.farStore P p (.func f a b) (Mode.plain == .atomic) with
        | .ok (w', _) => .ok () w'
        | .error h => .halt h w := run_store P w p (.func f a b) .plain rfl
def bltP (a b : Bar) : Prop := barLt a.1 a.2.1 a.2.2 b.1 b.2.1 b.2.2 = true
theorem bltP_iff (a b : Bar) : bltP a b ↔ a.2.1 < b.2.1 ∨ a.2.1 = b.2.1 ∧ (a.1 < b.1 ∨ a.1 = b.1 ∧ a.2.2 < b.2.2) := by simp [bltP, barLt]
theorem bltP_trans {a b c : Bar} (h : bltP a b) (h' : bltP b c) : bltP a c := by
  rw [bltP_iff] at *
  omega
theorem bltP_irrefl (a : Bar) : ¬ bltP a a := by
  rw [bltP_iff]
  omega
theorem barE_ok {x y s : Int} (h : barE x y s = 0) : BarOk (x, y, s) := by
  unfold barE at h
  split at h
  · rename_i h1
    exact absurd h (by simpa using h1)
  · rename_i h1
    obtain ⟨a1, a2, a3, a4, _⟩ := knotE_zero (by simpa using h1)
    split at h
    · cases h
    · rename_i h2
      refine ⟨⟨by show -200000 ≤ x; omega, by show x ≤ 200000; omega⟩, ⟨by show -200000 ≤ y; omega, by show y ≤ 200000; omega⟩, ?_⟩
      show s = 1 ∨ s = -1
      omega
theorem netGo_ok : ∀ (l : List Bar) (p : Option Bar), netGo p l = 0 → (∀ b ∈ l, BarOk b) ∧ l.Pairwise bltP ∧ ∀ q, p = some q → ∀ b ∈ l, bltP q b
  | [], _, _ => ⟨by simp, List.Pairwise.nil, by simp⟩
  | b :: r, p, h => by
    unfold netGo at h
    split at h
    · rename_i h1
      exact absurd h h1
    · rename_i h1
      split at h
      · cases h
      · rename_i h2
        obtain ⟨i1, i2, i3⟩ := netGo_ok r (some b) h
        have hq : ∀ q, p = some q → bltP q b := fun q hq => by
          subst hq
          simpa [bltP] using h2
        refine ⟨?_, List.Pairwise.cons (i3 b rfl) i2, fun q hp c hc => ?_⟩
        · intro c hc
          rcases List.mem_cons.1 hc with rfl | hc
          · exact barE_ok (by simpa using h1)
          · exact i1 c hc
        · rcases List.mem_cons.1 hc with rfl | hc
          · exact hq q hp
          · exact bltP_trans (hq q hp) (i3 b rfl c hc)
/-- a net without an error: each bar once, in order, within bounds -/
structure NetOk (l : List Bar) : Prop where
  len : l.length ≤ 4096
  ok : ∀ b ∈ l, BarOk b
  sorted : l.Pairwise bltP
theorem NetOk.nodup {l : List Bar} (h : NetOk l) : l.Nodup := h.sorted.imp fun hab e => by subst e; exact bltP_irrefl _ hab
theorem netE_ok {l : List Bar} (h : netE l = 0) : NetOk l := by
  unfold netE at h
  split at h
  · cases h
  · rename_i h1
    obtain ⟨i1, i2, _⟩ := netGo_ok l none h
    exact ⟨by omega, i1, i2⟩
theorem wout_unk (l a : List Bar) : decide (0 < (wout l a).length) = unk l a := by
  unfold wout unk
  rw [Bool.eq_iff_iff, decide_eq_true_eq, List.length_pos_iff_exists_mem, List.any_eq_true]
  constructor
  · rintro ⟨b, hb⟩
    rw [List.mem_filter] at hb
    exact ⟨b, hb.1, hb.2⟩
  · rintro ⟨b, hb1, hb2⟩
    exact ⟨b, List.mem_filter.2 ⟨hb1, hb2⟩⟩
theorem tornE_ok {N D : List Bar} (h : tornE N D = 0) : NetOk N ∧ NetOk D ∧ ∀ b ∈ D, b ∈ N := by
  unfold tornE firstI firstI firstI firstI at h
  split at h
  · rename_i h1
    split at h
    · rename_i h2
      refine ⟨netE_ok h1, netE_ok h2, fun b hb => ?_⟩
      by_cases hN : b ∈ N
      · exact hN
      · exfalso
        have : unk D N = true := List.any_eq_true.2 ⟨b, hb, by simp [hasb, hN]⟩
        simp [whenI, this] at h
    · rename_i h2; exact absurd h h2
  · rename_i h1; exact absurd h h1

theorem without_any {v u : Value} (l a : List Bar) (w : World) (h : SlB w v l) (ha : SlB w u a) (hlen : l.length ≤ 100000) : Calls Tryz.prog 50 #[v, u] w (RB w (wout l a)) := by
  go_enter Tryz.func50, Tryz.ntmps50
  go_wp2_with (first | (go_at_call 92; refine (member_any a _ ha).mono ?_; rintro e w1 ⟨g, rfl, hg, hm, hb1⟩; have hl1 := h.st0 hb1) |
    (go_at_call 93; refine (kept_without (.pointer (some ⟨w1.heap.size, 0, none⟩)) (fun b => !hasb a b) l _ (hl1.alloc _) hlen (fun W b hb => without1_any w1.heap.size g a b.1 b.2.1 b.2.2 W ((Blk.new _ _ _).below hb) ((hm.below (bl_alloc bl_refl _)).below hb))).mono ?_; rintro e w2 ⟨v2, rfl, hown2, hb2⟩))
  go_ret
  exact ⟨_, rfl, Own.base_mono hown2 (by simp; have := hb1.size; omega), by (repeat (first | exact bl_refl | assumption | (apply bl_then; assumption) | refine bl_alloc ?_ _ | refine bl_drew ?_ | refine bl_drewN ?_ _))⟩
theorem nnet_sl {v : Value} (l : List Bar) (w : World) (h : SlB w v l) : Calls Tryz.prog 35 #[v] w (RV w (.int .i64 (netE l))) := by
  obtain ⟨A, c, rfl, hlc, hcm, h⟩ := h
  exact nnet_any l A c w (Nat.le_trans hlc hcm) h
theorem mtorn_any {v u : Value} (N D : List Bar) (w : World) (hN : SlB w v N) (hD : SlB w u D) : Calls Tryz.prog 45 #[.agg #[v, u]] w (RV w (.int .i64 (tornE N D))) := by
  have hB := Blk.new w 27 #[v, u]
  have hN0 := hN.alloc (.cells #[v, u] 27)
  have hD0 := hD.alloc (.cells #[v, u] 27)
  have HT : Hid (tornE N D = if firstI [netE N, netE D] = 0 then whenI (unk D N) 10 else firstI [netE N, netE D]) := by
    unfold Hid tornE firstI firstI firstI firstI
    by_cases h1 : netE N = 0 <;> by_cases h2 : netE D = 0 <;> simp [h1, h2]
    exact fun h => h.symm
  have hlen : firstI [netE N, netE D] = 0 → D.length ≤ 100000 := fun h => by
    unfold firstI firstI firstI at h
    split at h
    · split at h
      · rename_i h2; have := (netE_ok h2).len; omega
      · rename_i h2; exact absurd h h2
    · rename_i h1; exact absurd h h1
  go_enter Tryz.func45, Tryz.ntmps45
  go_wp2
  refine wp_region_ords [0, 1, 3, 4] [(2, false)] [5, 6, 7, 8] (by kernel_rfl) (by kernel_rfl) (fun d _ _ _ _ h => by cases d <;> exact h) ?_
  simp only [List.map_cons, List.map_nil, List.getD_cons_zero, List.getD_cons_succ]
  repeat (go_big_quiet_step (fail))
  refine wpQuiet_nil ?_
  refine wpMid_run rfl (fun K hK => ?_)
  go_simp
  refine (nnet_sl N _ hN0.drew).mono ?_
  rintro e w1 ⟨rfl, hb1⟩
  refine hK _ _ (by (repeat (first | exact bl_refl | assumption | (apply bl_then; assumption) | refine bl_alloc ?_ _ | refine bl_drew ?_ | refine bl_drewN ?_ _))) ?_
  clear hK K
  (first | replace hB := hB.st0 hb1 | replace hB := hB.st1 hb1 | replace hB := hB.std hb1 | replace hB := hB.std1 hb1 | replace hB := hB.st2 hb1 | replace hB := hB.std2 hb1 | replace hB := hB.st3 hb1)
  have kB := hB.facts
  (first | replace hN0 := hN0.st0 hb1 | replace hN0 := hN0.st1 hb1 | replace hN0 := hN0.std hb1 | replace hN0 := hN0.std1 hb1 | replace hN0 := hN0.st2 hb1 | replace hN0 := hN0.std2 hb1 | replace hN0 := hN0.st3 hb1)
  (first | replace hD0 := hD0.st0 hb1 | replace hD0 := hD0.st1 hb1 | replace hD0 := hD0.std hb1 | replace hD0 := hD0.std1 hb1 | replace hD0 := hD0.st2 hb1 | replace hD0 := hD0.std2 hb1 | replace hD0 := hD0.st3 hb1)
  refine wpMid_nil ?_
  go_wp2_with (first | (go_at_call 35; refine (nnet_sl D _ hD0).mono ?_; rintro e w2 ⟨rfl, hb2⟩; (first | replace hB := hB.st0 hb2 | replace hB := hB.st1 hb2 | replace hB := hB.std hb2 | replace hB := hB.std1 hb2 | replace hB := hB.st2 hb2 | replace hB := hB.std2 hb2 | replace hB := hB.st3 hb2); have kB := hB.facts; (first | replace hN0 := hN0.st0 hb2 | replace hN0 := hN0.st1 hb2 | replace hN0 := hN0.std hb2 | replace hN0 := hN0.std1 hb2 | replace hN0 := hN0.st2 hb2 | replace hN0 := hN0.std2 hb2 | replace hN0 := hN0.st3 hb2); (first | replace hD0 := hD0.st0 hb2 | replace hD0 := hD0.st1 hb2 | replace hD0 := hD0.std hb2 | replace hD0 := hD0.std1 hb2 | replace hD0 := hD0.st2 hb2 | replace hD0 := hD0.std2 hb2 | replace hD0 := hD0.st3 hb2)) | (go_at_call 44; refine (mfirst_any [netE N, netE D] _ _ _ (by simp [maxLen]) (Rd.ints2 (by simp) (by go_simp) (by go_simp))).mono ?_; rintro e w3 ⟨rfl, hb3⟩; (first | replace hB := hB.st0 hb3 | replace hB := hB.st1 hb3 | replace hB := hB.std hb3 | replace hB := hB.std1 hb3 | replace hB := hB.st2 hb3 | replace hB := hB.std2 hb3 | replace hB := hB.st3 hb3); have kB := hB.facts; (first | replace hN0 := hN0.st0 hb3 | replace hN0 := hN0.st1 hb3 | replace hN0 := hN0.std hb3 | replace hN0 := hN0.std1 hb3 | replace hN0 := hN0.st2 hb3 | replace hN0 := hN0.std2 hb3 | replace hN0 := hN0.st3 hb3); (first | replace hD0 := hD0.st0 hb3 | replace hD0 := hD0.st1 hb3 | replace hD0 := hD0.std hb3 | replace hD0 := hD0.std1 hb3 | replace hD0 := hD0.st2 hb3 | replace hD0 := hD0.std2 hb3 | replace hD0 := hD0.st3 hb3)) | (go_at_call 50; refine (without_any D N _ hD0 hN0 (hlen (by simpa using (by assumption : (firstI [netE N, netE D] != 0) = false)))).mono ?_; rintro e w4 ⟨v4, rfl, hown4, hb4⟩; obtain ⟨A4, c4, rfl⟩ := hown4.shape) | (go_at_call 46; refine (mwhen_any _ _ _).mono ?_; rintro e w5 ⟨rfl, hb5⟩))
  · have hne : (firstI [netE N, netE D] != 0) = true := by assumption
    go_ret
    exact ⟨ret_int (by rw [HT.out, if_neg (by simpa using hne)]), by (repeat (first | exact bl_refl | assumption | (apply bl_then; assumption) | refine bl_alloc ?_ _ | refine bl_drew ?_ | refine bl_drewN ?_ _))⟩
  · have hne : (firstI [netE N, netE D] != 0) = false := by assumption
    go_ret
    refine ⟨ret_int ?_, by (repeat (first | exact bl_refl | assumption | (apply bl_then; assumption) | refine bl_alloc ?_ _ | refine bl_drew ?_ | refine bl_drewN ?_ _))⟩
    rw [HT.out, if_pos (by simpa using hne), ← wout_unk]
end Go.Proofs.YtpompeancmonbaaGreat

/- What the sorts' comparing functions leave of the world: draws and new blocks. Conditions: none. -/
namespace Go.Proofs.YtpompeancmonbaaGreat
open Go.RowKit Go.Sort
set_option maxHeartbeats 2000000
set_option maxRecDepth 100000

def RE (w : World) (v : Value) (e : Ending) (w' : World) : Prop := e = .returned v ∧ w' = w
def Grw (w w' : World) : Prop := ∃ q os, w' = grow (w.drewN q) os
def GV (w : World) (v : Value) (e : Ending) (w' : World) : Prop := e = .returned v ∧ Grw w w'
theorem Grw.refl (w : World) : Grw w w := ⟨0, #[], by simp [grow, World.drewN]⟩
theorem Grw.alloc {w W : World} (h : Grw w W) (o : Obj) : Grw w (W.alloc o) := by
  obtain ⟨q, os, rfl⟩ := h
  exact ⟨q, os.push o, by simp [grow, World.drewN, World.alloc]⟩
theorem Grw.drew {w W : World} (h : Grw w W) : Grw w W.drew := by
  obtain ⟨q, os, rfl⟩ := h
  exact ⟨q + 1, os, by simp [grow, World.drewN, World.drew, Nat.add_assoc]⟩

theorem isNaN_ex (n : Int) (w : World) : Calls Tryz.prog 135 #[.int .i64 n] w (RE w (.bool false)) := by
  have h : (n != n) = false := by simp
  go_enter Tryz.func135, Tryz.ntmps135
  go_wp2
  go_ret
  exact ⟨ret_bool (by simp), rfl⟩
theorem cmp_ex (a b : Int) (w : World) : Calls Tryz.prog 110 #[.int .i64 a, .int .i64 b] w (RE w (.int .i64 (cmpI a b))) := by
  go_enter Tryz.func110, Tryz.ntmps110
  go_wp2_with (go_at_call 135; refine (isNaN_ex _ _).mono ?_; rintro e w1 ⟨rfl, rfl⟩)
  all_goals go_ret
  all_goals refine ⟨ret_int ?_, rfl⟩
  · have h : a < b := by assumption
    simp [cmpI, h]
  · have h : b < a := by assumption
    have h' : ¬ a < b := by omega
    simp [cmpI, h, h']
  · have h : b ≤ a := by assumption
    have h'' : a ≤ b := by assumption
    have h1 : ¬ a < b := by omega
    have h2 : ¬ b < a := by omega
    simp [cmpI, h1, h2]
theorem or_ex (l : List Int) (A : Option Addr) (c : Nat) (w : World) (hl : l.length ≤ maxLen) (h : Rd ic 1 w A l) :
    Calls Tryz.prog 109 #[.slice A l.length c] w (RE w (.int .i64 (firstI l))) := by
  unfold maxLen at hl
  go_enter Tryz.func109, Tryz.ntmps109
  go_wp2
  go_loop [8] (fun i => ∃ k : Nat, k ≤ l.length ∧ i = .int .i64 k ∧ Hid (firstI l = firstI (l.drop k))) (fun i => l.length - (intOf i).toNat)
  case atStart => exact ⟨0, Nat.zero_le _, rfl, rfl⟩
  case round =>
    obtain ⟨k, hk, rfl, H⟩ := hrel
    by_cases hlt : k < l.length
    · obtain ⟨b, off, rfl, hb, hc⟩ := h.int hlt
      have hd := Lib.hid (firstI_drop hlt)
      go_wp2
      · have hne : (l[k] != 0) = true := by assumption
        go_ret
        refine ⟨ret_int ?_, rfl⟩
        rw [H.out, hd.out, if_neg (by simpa using hne)]
      · have hne : (l[k] != 0) = false := by assumption
        go_round
        case rel => exact ⟨k + 1, by omega, by go_num, by rw [H.out, hd.out, if_pos (by simpa using hne)]; rfl⟩
        case measure => simp [intOf]; omega
    · have hkl : k = l.length := by omega
      go_wp2
      go_ret
      refine ⟨ret_int ?_, rfl⟩
      rw [H.out, hkl, List.drop_length]; rfl

def knotCmp (x y x' y' : Int) : Int := firstI [cmpI y y', cmpI x x']
theorem kcmp_ex (x y x' y' : Int) (w : World) : Calls Tryz.prog 101 #[.agg #[.int .i64 x, .int .i64 y], .agg #[.int .i64 x', .int .i64 y']] w (GV w (.int .i64 (knotCmp x y x' y'))) := by
  go_enter Tryz.func101, Tryz.ntmps101
  go_wp2
  refine wp_region_ords [0, 1, 2, 3, 5, 6, 7, 8] [(4, false)] [9, 10, 11, 12] (by kernel_rfl) (by kernel_rfl) (fun d _ _ _ _ h => by cases d <;> exact h) ?_
  simp only [List.map_cons, List.map_nil, List.getD_cons_zero, List.getD_cons_succ]
  repeat (go_big_quiet_step (fail))
  refine wpQuiet_nil ?_
  refine wpMid_run rfl (fun K hK => ?_)
  go_simp
  refine (cmp_ex _ _ _).mono ?_
  rintro e w1 ⟨rfl, rfl⟩
  refine hK _ _ (by (repeat (first | exact bl_refl | assumption | (apply bl_then; assumption) | refine bl_alloc ?_ _ | refine bl_drew ?_ | refine bl_drewN ?_ _))) ?_
  clear hK K
  refine wpMid_nil ?_
  go_wp2_with (first | (go_at_call 110; refine (cmp_ex _ _ _).mono ?_; rintro e w1 ⟨rfl, rfl⟩) | (go_at_call 109; go_must (refine (or_ex [cmpI y y', cmpI x x'] _ _ _ (by simp [maxLen]) (Rd.ints2 (by simp) (by go_simp) (by go_simp))).mono ?_); rintro e w1 ⟨rfl, rfl⟩))
  go_ret
  exact ⟨rfl, ((((Grw.refl w).alloc _).alloc _).drew).alloc _⟩
def barCmpM (x y s x' y' s' : Int) : Int := firstI [cmpI y y', cmpI x x', cmpI s s']
theorem bcmp_ex (x y s x' y' s' : Int) (w : World) : Calls Tryz.prog 107 #[.agg #[.int .i64 x, .int .i64 y, .int .i64 s], .agg #[.int .i64 x', .int .i64 y', .int .i64 s']] w (GV w (.int .i64 (barCmpM x y s x' y' s'))) := by
  go_enter Tryz.func107, Tryz.ntmps107
  go_wp2
  refine wp_region_ords [0, 1, 2, 3, 5, 6, 7, 8, 10, 11, 12, 13] [(4, false), (9, false)] [14, 15, 16, 17] (by kernel_rfl) (by kernel_rfl) (fun d _ _ _ _ h => by cases d <;> exact h) ?_
  simp only [List.map_cons, List.map_nil, List.getD_cons_zero, List.getD_cons_succ]
  repeat (go_big_quiet_step (fail))
  refine wpQuiet_nil ?_
  refine wpMid_run rfl (fun K hK => ?_)
  go_simp
  refine (cmp_ex _ _ _).mono ?_
  rintro e w1 ⟨rfl, rfl⟩
  refine hK _ _ (by (repeat (first | exact bl_refl | assumption | (apply bl_then; assumption) | refine bl_alloc ?_ _ | refine bl_drew ?_ | refine bl_drewN ?_ _))) ?_
  clear hK K
  refine wpMid_run rfl (fun K hK => ?_)
  go_simp
  refine (cmp_ex _ _ _).mono ?_
  rintro e w1 ⟨rfl, rfl⟩
  refine hK _ _ (by (repeat (first | exact bl_refl | assumption | (apply bl_then; assumption) | refine bl_alloc ?_ _ | refine bl_drew ?_ | refine bl_drewN ?_ _))) ?_
  clear hK K
  refine wpMid_nil ?_
  go_wp2_with (first | (go_at_call 110; refine (cmp_ex _ _ _).mono ?_; rintro e w1 ⟨rfl, rfl⟩) | (go_at_call 109; go_must (refine (or_ex [cmpI y y', cmpI x x', cmpI s s'] _ _ _ (by simp [maxLen]) (Rd.ints3 (by simp) (by go_simp) (by go_simp) (by go_simp))).mono ?_); rintro e w1 ⟨rfl, rfl⟩))
  go_ret
  exact ⟨rfl, ((((Grw.refl w).alloc _).alloc _).drew).alloc _⟩
end Go.Proofs.YtpompeancmonbaaGreat
