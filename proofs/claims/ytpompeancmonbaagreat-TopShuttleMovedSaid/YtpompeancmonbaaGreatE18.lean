/- CheckPatch, Inner and CheckTrim of the program, walked. Conditions: the slices read as lists. -/
import Derived.Test.YtpompeancmonbaaGreatE17
namespace Go.Proofs.YtpompeancmonbaaGreat
open Go.RowKit Go.ChangeMaps
set_option maxHeartbeats 4000000
set_option maxRecDepth 100000

def cpatchE (N D P : List Bar) : Int := if patchE N D P = 0 then whenI (!rdyB (wout D P)) 18 else patchE N D P
theorem wout_mem {l a : List Bar} {b : Bar} : b ∈ wout l a ↔ b ∈ l ∧ b ∉ a := by
  unfold wout
  rw [List.mem_filter]
  simp [hasb]
theorem wout_nodup {l : List Bar} (h : l.Nodup) (a : List Bar) : (wout l a).Nodup := h.sublist List.filter_sublist
/-! ## trimmings that are checked -/
def addAll (D T : List Bar) : List Bar := T.foldl (fun d b => dset d b true) D
def trimE (N D T : List Bar) : Int := if netsE N D T = 0 then (if unk T (wout N D) = true then 10 else whenI (!rdyB (addAll D T)) 21) else netsE N D T
theorem dset_len (D : List Bar) (b : Bar) : (dset D b true).length ≤ D.length + 1 := by
  unfold dset
  rw [if_pos rfl]
  split <;> simp
theorem dset_ok {D : List Bar} (h : ∀ b ∈ D, BarOk b) (hn : D.Nodup) {b : Bar} (hb : BarOk b) : ∀ x ∈ dset D b true, BarOk x := fun x hx => by
  have := (dset_mem hn b x true).1 hx
  by_cases e : x = b
  · subst e; exact hb
  · rw [if_neg e] at this; exact h x this
theorem addAll_ok : ∀ {T D : List Bar}, (∀ b ∈ D, BarOk b) → D.Nodup → (∀ b ∈ T, BarOk b) → (∀ b ∈ addAll D T, BarOk b) ∧ (addAll D T).Nodup ∧ (addAll D T).length ≤ D.length + T.length
  | [], D, h, hn, _ => ⟨h, hn, by simp [addAll]⟩
  | b :: T, D, h, hn, hT => by
    have ih := addAll_ok (T := T) (D := dset D b true) (dset_ok h hn (hT b (by simp))) (dset_nodup hn b true) (fun x hx => hT x (by simp [hx]))
    have := dset_len D b
    refine ⟨ih.1, ih.2.1, ?_⟩
    have h2 := ih.2.2
    show (addAll (dset D b true) T).length ≤ _
    simp only [List.length_cons]
    omega
theorem addAll_take {D T : List Bar} {k : Nat} (hk : k < T.length) : addAll D (T.take (k + 1)) = dset (addAll D (T.take k)) (T[k].1, T[k].2.1, T[k].2.2) true := by
  unfold addAll
  rw [List.take_succ_eq_append_getElem hk, List.foldl_append]
  rfl

end Go.Proofs.YtpompeancmonbaaGreat

/- The search for a least trimming, of the program, walked. Conditions: the hole at its block; bars within bounds, each once. -/
namespace Go.Proofs.YtpompeancmonbaaGreat
open Go.RowKit Go.ChangeMaps
set_option maxHeartbeats 4000000
set_option maxRecDepth 100000

/-! ## plain -/
def tryB (f : List Bar → List Bar → Option (List Bar)) (n : Nat) (D : List Bar) : List Bar → Option (List Bar)
  | [] => none
  | b :: r => if r.length + 1 < n then none else match f (D ++ [b]) r with
    | some x => some (b :: x)
    | none => tryB f n D r
/-- the first trimming of n bars of a list -/
def srch : Nat → List Bar → List Bar → Option (List Bar)
  | 0, D, _ => if rdyB D then some [] else none
  | n + 1, D, l => if 2 * (n + 1) + 2 < (oddK D).length then none else tryB (srch n) (n + 1) D l
theorem dset_add {D : List Bar} {b : Bar} (h : b ∉ D) : dset D b true = D ++ [b] := by
  unfold dset
  rw [if_pos rfl, if_neg h]
theorem dset_back {D : List Bar} {b : Bar} (h : b ∉ D) : dset (D ++ [b]) b false = D := by
  unfold dset
  rw [if_neg (by decide), List.erase_append_right _ h]
  simp
theorem sl_chg {α : Type} {enc : α → List Value} {sz : Nat} {w W : World} {v : Value} {l : List α} {h rb rk : Nat} {D : List Bar} (hs : Sl enc sz w v l) (hp : ∀ x, 0 < (enc x).length) (H : HoleAt w h rb rk D) (hc : Chg [rb, rk] w W) : Sl enc sz W v l := by
  obtain ⟨A, c, rfl, h1, h2, hr⟩ := hs
  refine ⟨A, c, rfl, h1, h2, fun i x hx => ?_⟩
  obtain ⟨b, off, he, hb, hcl⟩ := hr i x hx
  have hob : b ∉ [rb, rk] := by
    obtain ⟨u, hu⟩ : ∃ u, (enc x)[0]? = some u := ⟨_, List.getElem?_eq_getElem (hp x)⟩
    have h0 := hcl 0 u hu
    obtain ⟨mb, cb, hmb, _⟩ := H.bars
    obtain ⟨mk, ck, hmk, _⟩ := H.knots
    unfold MapAt at hmb hmk
    intro hm
    rcases List.mem_cons.1 hm with rfl | hm
    · simp [World.cell?, hmb] at h0
    · obtain rfl : b = rk := by simpa using hm
      simp [World.cell?, hmk] at h0
  have hblk := hc.block b hb hob
  refine ⟨b, off, he, Nat.lt_of_lt_of_le hb hc.size, fun j u hu => ?_⟩
  rw [← hcl j u hu]
  simp [World.cell?, hblk]
theorem own_one (W : World) {base : Nat} (hb : base ≤ W.heap.size) (x y s : Int) : OwB base (W.alloc (.cells #[.int .i64 x, .int .i64 y, .int .i64 s] 46)) (.slice (some ⟨W.heap.size, 0, none⟩) 1 1) [(x, y, s)] :=
  ⟨by simp [bc], .inr ⟨W.heap.size, 1, _, rfl, hb, heap_alloc_new W _, Nat.le_refl _, by simp [maxLen], by simp, by simp [bc]⟩⟩

theorem search_zero (D l : List Bar) (v : Value) (w : World) (h rb rk : Nat) (H : HoleAt w h rb rk D) (hok : ∀ b ∈ D, BarOk b) (hlen : D.length ≤ 100000) :
    Calls Tryz.prog 51 #[.pointer (some ⟨h, 0, none⟩), v, .int .i64 0] w fun e w' => ∃ v', e = .returned (.tuple #[v', .bool (srch 0 D l).isSome]) ∧ OwB w.heap.size w' v' ((srch 0 D l).getD []) ∧ HoleAt w' h rb rk D ∧ Chg [rb, rk] w w' := by
  go_enter Tryz.func51, Tryz.ntmps51
  go_wp2_with (go_at_call 52; refine (ready_any _ _ _ D _ H hok hlen).mono ?_; rintro e w1 ⟨rfl, hb1⟩)
  go_ret2
  exact ⟨.slice none 0 0, by unfold srch; cases rdyB D <;> rfl, by unfold srch; cases rdyB D <;> exact Own.nil_, H.below hb1, Chg.of_below hb1⟩
theorem bc_pos (b : Bar) : 0 < (bc b).length := by simp [bc]
theorem sl_tail {w : World} {b off c : Nat} {l : List Bar} (h : SlB w (.slice (some ⟨b, off, none⟩) l.length c) l) {k : Nat} (hk : k ≤ l.length) : SlB w (.slice (some ⟨b, off + k * 3, none⟩) (l.length - k) (c - k)) (l.drop k) := by
  obtain ⟨A, c', he, h1, h2, hr⟩ := h
  obtain ⟨rfl, rfl⟩ : some (⟨b, off, none⟩ : Addr) = A ∧ c = c' := by simpa using he
  refine ⟨_, _, by rw [List.length_drop], by rw [List.length_drop]; omega, by omega, fun i x hx => ?_⟩
  rw [List.getElem?_drop] at hx
  obtain ⟨b', off', e', hb, hc⟩ := hr (k + i) x hx
  obtain ⟨rfl, rfl⟩ : b = b' ∧ off = off' := by simpa using e'
  refine ⟨b, off + k * 3, rfl, hb, fun j u hu => ?_⟩
  have := hc j u hu
  rwa [show off + (k + i) * 3 + j = off + k * 3 + i * 3 + j by omega] at this
theorem sl_none {w : World} {b off : Nat} : SlB w (.slice (some ⟨b, off, none⟩) 0 0) [] := ⟨_, 0, rfl, by simp, Nat.zero_le _, fun i x hx => by simp at hx⟩
theorem srch_len : ∀ (n : Nat) (D l z : List Bar), srch n D l = some z → z.length = n
  | 0, D, l, z, h => by
    unfold srch at h
    split at h
    · obtain rfl := Option.some.inj h; rfl
    · cases h
  | n + 1, D, l, z, h => by
    unfold srch at h
    split at h
    · cases h
    · induction l with
      | nil => cases h
      | cons b r ih =>
        unfold tryB at h
        split at h
        · cases h
        · split at h
          · rename_i x hx
            obtain rfl := Option.some.inj h
            rw [List.length_cons, srch_len n _ _ x hx]
          · exact ih h
theorem tryB_drop {f : List Bar → List Bar → Option (List Bar)} {n : Nat} {D l : List Bar} {k : Nat} (hk : k < l.length) (hn : n ≤ l.length - k) : tryB f n D (l.drop k) = match f (D ++ [l[k]]) (l.drop (k + 1)) with
    | some x => some (l[k] :: x)
    | none => tryB f n D (l.drop (k + 1)) := by
  rw [List.drop_eq_getElem_cons hk]
  show (if _ then _ else _) = _
  rw [if_neg (by rw [List.length_drop]; omega)]
theorem tryB_stop {f : List Bar → List Bar → Option (List Bar)} {n : Nat} {D l : List Bar} {k : Nat} (hn : l.length - k < n) : tryB f n D (l.drop k) = none := by
  rcases Nat.lt_or_ge k l.length with h | h
  · rw [List.drop_eq_getElem_cons h]
    show (if _ then _ else _) = _
    rw [if_pos (by rw [List.length_drop]; omega)]
  · rw [List.drop_eq_nil_of_le h]; rfl

theorem search_succ (n : Nat) (hn : n ≤ 4) (D l : List Bar) (v : Value) (w : World) (h rb rk : Nat) (H : HoleAt w h rb rk D) (hl : SlB w v l) (hnd : (D ++ l).Nodup) (hok : ∀ b ∈ D ++ l, BarOk b) (hlen : (D ++ l).length ≤ 100000)
    (IH : ∀ (D' l' : List Bar) (v' : Value) (w' : World), SlB w' v' l' → HoleAt w' h rb rk D' → (D' ++ l').Nodup → (∀ b ∈ D' ++ l', BarOk b) → (D' ++ l').length ≤ 100000 →
      Calls Tryz.prog 51 #[.pointer (some ⟨h, 0, none⟩), v', .int .i64 n] w' fun e w2 => ∃ v2, e = .returned (.tuple #[v2, .bool (srch n D' l').isSome]) ∧ OwB w'.heap.size w2 v2 ((srch n D' l').getD []) ∧ HoleAt w2 h rb rk D' ∧ Chg [rb, rk] w' w2) :
    Calls Tryz.prog 51 #[.pointer (some ⟨h, 0, none⟩), v, .int .i64 ((n : Int) + 1)] w fun e w' => ∃ v', e = .returned (.tuple #[v', .bool (srch (n + 1) D l).isSome]) ∧ OwB w.heap.size w' v' ((srch (n + 1) D l).getD []) ∧ HoleAt w' h rb rk D ∧ Chg [rb, rk] w w' := by
  have hl0 := hl
  obtain ⟨A, c, rfl, hlc, hcm, hr⟩ := hl
  have hlm : l.length ≤ maxLen := Nat.le_trans hlc hcm
  unfold maxLen at hlm
  have hz : ((n : Int) + 1 == 0) = false := by simp; omega
  have hdn : D.length ≤ 100000 := by rw [List.length_append] at hlen; omega
  have hdk : ∀ b ∈ D, BarOk b := fun b hb => hok b (List.mem_append_left _ hb)
  have hds : ∀ b ∈ D, Sided b := fun b hb => (hdk b hb).2.2
  have HX := Lib.hid (⟨hnd, hok, hlen⟩ : (D ++ l).Nodup ∧ (∀ b ∈ D ++ l, BarOk b) ∧ (D ++ l).length ≤ 100000)
  clear hnd hok hlen
  have hoc : (oddK D).length ≤ 200000 := by
    have := List.length_filter_le (fun k => oddL (legsAt D k)) (holeK D)
    have := holeK_len D
    unfold oddK
    omega
  by_cases hpr : 2 * (n + 1) + 2 < (oddK D).length
  · have HS : Hid (srch (n + 1) D l = none) := by unfold Hid srch; rw [if_pos hpr]
    have hpr2 : (2 * ((n : Int) + 1) + 2 < ((oddK D).length : Int)) = True := by simp; omega
    go_enter Tryz.func51, Tryz.ntmps51
    go_wp2_with (go_at_call 89; refine (hodd_any _ _ _ D _ H hds hdn).mono ?_; rintro e w1 ⟨v1, rfl, hown1, hb1⟩; obtain ⟨A1, c1, rfl⟩ := hown1.shape)
    go_ret2
    exact ⟨.slice none 0 0, by rw [HS.out]; rfl, by rw [HS.out]; exact Own.nil_, H.below hb1, Chg.of_below hb1⟩
  · have HS : Hid (srch (n + 1) D l = tryB (srch n) (n + 1) D l) := by unfold Hid; rw [srch, if_neg hpr]
    have hpr2 : (2 * ((n : Int) + 1) + 2 < ((oddK D).length : Int)) = False := by simp; omega
    go_enter Tryz.func51, Tryz.ntmps51
    go_wp2_with (go_at_call 89; refine (hodd_any _ _ _ D _ H hds hdn).mono ?_; rintro e w1 ⟨v1, rfl, hown1, hb1⟩; obtain ⟨A1, c1, rfl⟩ := hown1.shape)
    have H1 := H.below hb1
    go_loopw [27] (fun i wr => ∃ k : Nat, k ≤ l.length ∧ i = .int .i64 k ∧ HoleAt wr h rb rk D ∧ Chg [rb, rk] w wr ∧ Hid (srch (n + 1) D l = tryB (srch n) (n + 1) D (l.drop k))) (fun i _ => l.length - (intOf i).toNat)
    case atStart => exact ⟨0, Nat.zero_le _, rfl, H1, Chg.of_below hb1, HS⟩
    case round =>
      obtain ⟨k, hk, rfl, HR, hcw, HK⟩ := hrel
      by_cases hlt : k < l.length
      · have hlr := sl_chg hl0 bc_pos H hcw
        have hlr' := hlr
        obtain ⟨A', c', e', _, _, hr'⟩ := hlr'
        obtain ⟨rfl, rfl⟩ : A = A' ∧ c = c' := by simpa using e'
        obtain ⟨b, off, rfl, hb, e0, e1, e2⟩ := hr'.bar hlt
        obtain ⟨⟨x, y, s⟩, hx⟩ : ∃ z, l[k] = z := ⟨_, rfl⟩
        rw [hx] at e0 e1 e2
        by_cases hst : l.length - k < n + 1
        · have hst2 : ((l.length : Int) - (k : Int) < (n : Int) + 1) = True := by simp; omega
          have HN := Lib.hid (tryB_stop (f := srch n) (D := D) hst)
          clear e'
          go_wp2
          go_ret2
          exact ⟨.slice none 0 0, by rw [HK.out, HN.out]; rfl, by rw [HK.out, HN.out]; exact Own.nil_, HR.below (bl_alloc bl_refl _), hcw.alloc _⟩
        · have hst2 : ((l.length : Int) - (k : Int) < (n : Int) + 1) = False := by simp; omega
          have HT := Lib.hid (tryB_drop (f := srch n) (D := D) hlt (show n + 1 ≤ l.length - k by omega))
          have HZ := Lib.hid (fun z (hz : srch n (D ++ [(x, y, s)]) (l.drop (k + 1)) = some z) => srch_len n _ _ z hz)
          rw [hx] at HT
          obtain ⟨hnd, hok, hlen⟩ := HX.out
          have hlk : l[k] ∈ l := List.getElem_mem hlt
          have hbo : BarOk (x, y, s) := by rw [← hx]; exact hok _ (List.mem_append_right _ hlk)
          have hbD : (x, y, s) ∉ D := fun hm => by
            have := (List.nodup_append.1 hnd).2.2 _ hm _ (hx ▸ hlk)
            exact this rfl
          have hpe : (D ++ [(x, y, s)]) ++ l.drop (k + 1) = D ++ l.drop k := by rw [List.drop_eq_getElem_cons hlt, hx, List.append_assoc]; rfl
          have hsl : (D ++ l.drop k).Sublist (D ++ l) := (List.Sublist.refl D).append (List.drop_sublist k l)
          have ih := fun v' w' h1 h2 => IH (D ++ [(x, y, s)]) (l.drop (k + 1)) v' w' h1 h2 (by rw [hpe]; exact hnd.sublist hsl) (by rw [hpe]; exact fun b hb => hok b (hsl.subset hb)) (by rw [hpe]; exact Nat.le_trans hsl.length_le hlen)
          have hBb := Blk.new wr 46 #[.int .i64 x, .int .i64 y, .int .i64 s]
          have HR' := HR.below (bl_alloc bl_refl (.cells #[.int .i64 x, .int .i64 y, .int .i64 s] 46))
          clear hnd hok hlen hpe hsl hlk e' hx hr'
          by_cases hcc : c = k + 1
          · have hln : l.length = k + 1 := by omega
            have hsub : SlB wr (.slice (some ⟨b, off, none⟩) 0 0) (l.drop (k + 1)) := by rw [← hln, List.drop_length]; exact sl_none
            clear hln
            subst hcc
            go_wp2_with fail
            refine (set_any h rb rk D x y s true _ (HR.below (bl_alloc bl_refl _)) hbo.1 hbo.2.1 hbo.2.2).mono ?_
            rintro e w1 ⟨rfl, H1, hc1⟩
            rw [dset_add hbD] at H1
            have hB1 := hBb.chg hc1 (HR'.ne hBb)
            have f1 := hB1.facts
            have hs1 := sl_chg (hsub.alloc (.cells #[.int .i64 x, .int .i64 y, .int .i64 s] 46)) bc_pos HR' hc1
            go_wp2_with fail
            refine (ih _ _ hs1 H1).mono ?_
            rintro e w2 ⟨v2, rfl, hown2, H2, hc2⟩
            have hB2 := hB1.chg hc2 (H1.ne hB1)
            have f2 := hB2.facts
            go_wp2_with fail
            refine (set_any h rb rk (D ++ [(x, y, s)]) x y s false _ H2 hbo.1 hbo.2.1 hbo.2.2).mono ?_
            rintro e w3 ⟨rfl, H3, hc3⟩
            rw [dset_back hbD] at H3
            have hB3 := hB2.chg hc3 (H2.ne hB2)
            have f3 := hB3.facts
            have hrb1 : rb < w1.heap.size := by obtain ⟨_, _, hm, _⟩ := H1.bars; exact hm.lt
            have hrk1 : rk < w1.heap.size := by obtain ⟨_, _, hm, _⟩ := H1.knots; exact hm.lt
            have hown3 := hown2.chg hc3 (by simp; omega)
            have hc13 : Chg [rb, rk] w w3 := (((hcw.alloc (.cells #[.int .i64 x, .int .i64 y, .int .i64 s] 46)).trans hc1).trans hc2).trans hc3
            have hw1 : w.heap.size ≤ w1.heap.size := (((hcw.alloc (.cells #[.int .i64 x, .int .i64 y, .int .i64 s] 46)).trans hc1)).size
            obtain ⟨o, ho⟩ : ∃ o, srch n (D ++ [(x, y, s)]) (l.drop (k + 1)) = o := ⟨_, rfl⟩
            rw [ho] at hown3 HT ⊢
            have hzl : ∀ z, o = some z → z.length ≤ 1000000 - 1 := fun z hz => by have := HZ.out z (ho.trans hz); omega
            clear ho
            cases o with
            | none =>
              go_wp2
              go_roundw
              case rel => exact ⟨k + 1, by omega, by go_num, H3, hc13, by unfold Hid; rw [HK.out, HT.out]⟩
              case measure => simp [intOf]; omega
            | some z =>
              have hlz : z.length ≤ 1000000 - 1 := by have := hzl z rfl; omega
              have hw3 := hc13.size
              go_wp2_with (at_builtin; refine wpList_appBS (own_one w3 hw3 x y s) ((hown3.rd bc_len).alloc _) rfl _ _ rfl rfl rfl (by simp; omega) (by simp; omega) ?_; intro v4 w4 hown4 hgr4)
              have hb34 : Below w3.heap.size w3 w4 := bl_grown hgr4 (bl_alloc bl_refl _) (by simp [Value.ownBlock])
              go_ret2
              exact ⟨v4, by rw [HK.out, HT.out]; rfl, by rw [HK.out, HT.out]; exact hown4, H3.below hb34, hc13.trans (Chg.of_below hb34)⟩
          · have hsub := sl_tail hlr (k := k + 1) (by omega)
            go_wp2_with fail
            refine (set_any h rb rk D x y s true _ (HR.below (bl_alloc bl_refl _)) hbo.1 hbo.2.1 hbo.2.2).mono ?_
            rintro e w1 ⟨rfl, H1, hc1⟩
            rw [dset_add hbD] at H1
            have hB1 := hBb.chg hc1 (HR'.ne hBb)
            have f1 := hB1.facts
            have hs1 := sl_chg (hsub.alloc (.cells #[.int .i64 x, .int .i64 y, .int .i64 s] 46)) bc_pos HR' hc1
            go_wp2_with fail
            refine (ih _ _ hs1 H1).mono ?_
            rintro e w2 ⟨v2, rfl, hown2, H2, hc2⟩
            have hB2 := hB1.chg hc2 (H1.ne hB1)
            have f2 := hB2.facts
            go_wp2_with fail
            refine (set_any h rb rk (D ++ [(x, y, s)]) x y s false _ H2 hbo.1 hbo.2.1 hbo.2.2).mono ?_
            rintro e w3 ⟨rfl, H3, hc3⟩
            rw [dset_back hbD] at H3
            have hB3 := hB2.chg hc3 (H2.ne hB2)
            have f3 := hB3.facts
            have hrb1 : rb < w1.heap.size := by obtain ⟨_, _, hm, _⟩ := H1.bars; exact hm.lt
            have hrk1 : rk < w1.heap.size := by obtain ⟨_, _, hm, _⟩ := H1.knots; exact hm.lt
            have hown3 := hown2.chg hc3 (by simp; omega)
            have hc13 : Chg [rb, rk] w w3 := (((hcw.alloc (.cells #[.int .i64 x, .int .i64 y, .int .i64 s] 46)).trans hc1).trans hc2).trans hc3
            have hw1 : w.heap.size ≤ w1.heap.size := (((hcw.alloc (.cells #[.int .i64 x, .int .i64 y, .int .i64 s] 46)).trans hc1)).size
            obtain ⟨o, ho⟩ : ∃ o, srch n (D ++ [(x, y, s)]) (l.drop (k + 1)) = o := ⟨_, rfl⟩
            rw [ho] at hown3 HT ⊢
            have hzl : ∀ z, o = some z → z.length ≤ 1000000 - 1 := fun z hz => by have := HZ.out z (ho.trans hz); omega
            clear ho
            cases o with
            | none =>
              go_wp2
              go_roundw
              case rel => exact ⟨k + 1, by omega, by go_num, H3, hc13, by unfold Hid; rw [HK.out, HT.out]⟩
              case measure => simp [intOf]; omega
            | some z =>
              have hlz : z.length ≤ 1000000 - 1 := by have := hzl z rfl; omega
              have hw3 := hc13.size
              go_wp2_with (at_builtin; refine wpList_appBS (own_one w3 hw3 x y s) ((hown3.rd bc_len).alloc _) rfl _ _ rfl rfl rfl (by simp; omega) (by simp; omega) ?_; intro v4 w4 hown4 hgr4)
              have hb34 : Below w3.heap.size w3 w4 := bl_grown hgr4 (bl_alloc bl_refl _) (by simp [Value.ownBlock])
              go_ret2
              exact ⟨v4, by rw [HK.out, HT.out]; rfl, by rw [HK.out, HT.out]; exact hown4, H3.below hb34, hc13.trans (Chg.of_below hb34)⟩
      · have hkl : k = l.length := by omega
        have HN : Hid (tryB (srch n) (n + 1) D (l.drop k) = none) := tryB_stop (by omega)
        go_wp2
        go_ret2
        exact ⟨.slice none 0 0, by rw [HK.out, HN.out]; rfl, by rw [HK.out, HN.out]; exact Own.nil_, HR, hcw⟩

theorem search_any : ∀ (n : Nat), n ≤ 4 → ∀ (D l : List Bar) (v : Value) (w : World) (h rb rk : Nat), HoleAt w h rb rk D → SlB w v l → (D ++ l).Nodup → (∀ b ∈ D ++ l, BarOk b) → (D ++ l).length ≤ 100000 →
    Calls Tryz.prog 51 #[.pointer (some ⟨h, 0, none⟩), v, .int .i64 n] w fun e w' => ∃ v', e = .returned (.tuple #[v', .bool (srch n D l).isSome]) ∧ OwB w.heap.size w' v' ((srch n D l).getD []) ∧ HoleAt w' h rb rk D ∧ Chg [rb, rk] w w'
  | 0, _, D, l, v, w, h, rb, rk, H, _, _, hok, hlen => search_zero D l v w h rb rk H (fun b hb => hok b (List.mem_append_left _ hb)) (by rw [List.length_append] at hlen; omega)
  | n + 1, hn, D, l, v, w, h, rb, rk, H, hl, hnd, hok, hlen => search_succ n (by omega) D l v w h rb rk H hl hnd hok hlen (fun D' l' v' w' h1 h2 h3 h4 h5 => search_any n (by omega) D' l' v' w' h rb rk h2 h1 h3 h4 h5)
end Go.Proofs.YtpompeancmonbaaGreat

/- Inner of the program, walked. Conditions: the slices read as lists. -/
namespace Go.Proofs.YtpompeancmonbaaGreat
open Go.RowKit Go.ChangeMaps
set_option maxHeartbeats 4000000
set_option maxRecDepth 100000

def inB (D : List Bar) (b : Bar) : Bool := cnt (legsAt D (lowK b)) == 4 && cnt (legsAt D (uppK b)) == 4
def innerL (N D : List Bar) : List Bar := if tornE N D = 0 then D.filter (inB D) else []
end Go.Proofs.YtpompeancmonbaaGreat

/- The bar between two knots, walks checked and passed, of the program, walked. Conditions: knots within bounds. -/
namespace Go.Proofs.YtpompeancmonbaaGreat
open Go.RowKit Go.ChangeMaps
set_option maxHeartbeats 4000000
set_option maxRecDepth 100000

/-- there is a bar between two knots -/
def adjB (a b : Knot) : Bool := decide ((b.2 = a.2 + 1 ∨ b.2 = a.2 - 1) ∧ (b.1 = a.1 + 1 ∨ b.1 = a.1 - 1))
def betw (a b : Knot) : Bar := if adjB a b then btwB a b else (0, 0, 0)
theorem adj_arm {a b : Knot} : adjB a b = true ↔ ∃ i, i < 4 ∧ armK a i = b := by
  obtain ⟨x, y⟩ := a
  obtain ⟨x', y'⟩ := b
  unfold adjB
  rw [decide_eq_true_eq]
  constructor
  · rintro ⟨h1, h2⟩
    simp only at h1 h2
    rcases h1 with h1 | h1 <;> rcases h2 with h2 | h2
    · exact ⟨1, by omega, by simp [armK, h1, h2]⟩
    · exact ⟨0, by omega, by simp [armK, h1, h2]⟩
    · exact ⟨3, by omega, by simp [armK, h1, h2]⟩
    · exact ⟨2, by omega, by simp [armK, h1, h2]⟩
  · rintro ⟨i, hi, h⟩
    obtain rfl | rfl | rfl | rfl : i = 0 ∨ i = 1 ∨ i = 2 ∨ i = 3 := by omega
    all_goals
      simp only [armK, Prod.mk.injEq] at h
      omega
theorem betw_arm {a b : Knot} {i : Nat} (hi : i < 4) (h : armK a i = b) : betw a b = armB a i ∧ adjB a b = true := by
  have h1 : adjB a b = true := adj_arm.2 ⟨i, hi, h⟩
  refine ⟨?_, h1⟩
  unfold betw
  rw [h1, if_pos rfl, ← h, btwB_arm a hi]
theorem betw_none {a b : Knot} (h : ∀ i, i < 4 → armK a i ≠ b) : betw a b = (0, 0, 0) ∧ adjB a b = false := by
  have h1 : adjB a b = false := by
    cases hh : adjB a b
    · rfl
    · obtain ⟨i, hi, e⟩ := adj_arm.1 hh
      exact absurd e (h i hi)
  exact ⟨by unfold betw; rw [h1]; rfl, h1⟩
def nearK (k : Knot) : Prop := -200002 ≤ k.1 ∧ k.1 ≤ 200002 ∧ -200002 ≤ k.2 ∧ k.2 ≤ 200002
theorem between_any (x y x' y' : Int) (w : World) (hn : nearK (x, y)) : Calls Tryz.prog 106 #[.agg #[.int .i64 x, .int .i64 y], .agg #[.int .i64 x', .int .i64 y']] w
    (RV w (.tuple #[.agg #[.int .i64 (betw (x, y) (x', y')).1, .int .i64 (betw (x, y) (x', y')).2.1, .int .i64 (betw (x, y) (x', y')).2.2], .bool (adjB (x, y) (x', y'))])) := by
  unfold nearK at hn
  simp only at hn
  have hA := ((Blk.new w 32 #[.int .i64 x, .int .i64 y]).alloc (.cells #[.int .i64 x', .int .i64 y'] 32)).alloc (.cells #[.int .i64 0, .int .i64 0, .int .i64 0] 46)
  have hC := (Blk.new1 w (.cells #[.int .i64 x, .int .i64 y] 32) 32 #[.int .i64 x', .int .i64 y']).alloc (.cells #[.int .i64 0, .int .i64 0, .int .i64 0] 46)
  have hR := Blk.new2 w (.cells #[.int .i64 x, .int .i64 y] 32) (.cells #[.int .i64 x', .int .i64 y'] 32) 46 #[.int .i64 0, .int .i64 0, .int .i64 0]
  go_enter Tryz.func106, Tryz.ntmps106
  go_wp2
  go_loopw [9] (fun i wr => ∃ k : Nat, k ≤ 4 ∧ i = .int .i64 k ∧ Hid (∀ j, j < k → armK (x, y) j ≠ (x', y')) ∧ Blk wr w.heap.size 32 #[.int .i64 x, .int .i64 y] ∧ Blk wr (w.heap.size + 1) 32 #[.int .i64 x', .int .i64 y'] ∧
      Blk wr (w.heap.size + 1 + 1) 46 #[.int .i64 0, .int .i64 0, .int .i64 0] ∧ Below w.heap.size w wr) (fun i _ => 4 - (intOf i).toNat)
  case atStart => exact ⟨0, by omega, rfl, fun j hj => absurd hj (by omega), hA, hC, hR, by (repeat (first | exact bl_refl | assumption | (apply bl_then; assumption) | refine bl_alloc ?_ _ | refine bl_drew ?_ | refine bl_drewN ?_ _))⟩
  case round =>
    clear hA hC hR
    obtain ⟨k, hk, rfl, H, hA, hC, hR, hbw⟩ := hrel
    have fA := hA.facts
    have fC := hC.facts
    have fR := hR.facts
    by_cases hlt : k < 4
    · obtain ⟨g, hg⟩ : ∃ g, beqK (armK (x, y) k).1 (armK (x, y) k).2 x' y' = g := ⟨_, rfl⟩
      cases g
      · have hne : Hid (armK (x, y) k ≠ (x', y')) := fun e => by
          have : beqK (armK (x, y) k).1 (armK (x, y) k).2 x' y' = true := beqK_true.2 e
          rw [this] at hg; cases hg
        go_wp2_with (go_at_call 129; refine (arm_cells x y k hlt (by omega) (by omega) _).mono ?_; rintro e w2 ⟨rfl, hb2⟩; have hA2 := hA.below hb2; have hC2 := hC.below hb2; have hR2 := hR.below hb2; have fA2 := hA2.facts; have fC2 := hC2.facts)
        go_roundw
        case rel => exact ⟨k + 1, by omega, by go_num, fun j hj => by
          by_cases e : j = k
          · rw [e]; exact hne.out
          · exact H.out j (by omega), hA2.below (by (repeat (first | exact bl_refl | assumption | (apply bl_then; assumption) | refine bl_alloc ?_ _ | refine bl_drew ?_ | refine bl_drewN ?_ _))), hC2.below (by (repeat (first | exact bl_refl | assumption | (apply bl_then; assumption) | refine bl_alloc ?_ _ | refine bl_drew ?_ | refine bl_drewN ?_ _))), hR2.below (by (repeat (first | exact bl_refl | assumption | (apply bl_then; assumption) | refine bl_alloc ?_ _ | refine bl_drew ?_ | refine bl_drewN ?_ _))), by (repeat (first | exact bl_refl | assumption | (apply bl_then; assumption) | refine bl_alloc ?_ _ | refine bl_drew ?_ | refine bl_drewN ?_ _))⟩
        case measure => simp [intOf]; omega
      · have hbt := betw_arm hlt (beqK_true.1 hg)
        have HB := Lib.hid hbt
        clear hbt
        obtain ⟨⟨ax, ay, az⟩, hab⟩ : ∃ z, armB (x, y) k = z := ⟨_, rfl⟩
        obtain ⟨⟨kx, ky⟩, hak⟩ : ∃ z, armK (x, y) k = z := ⟨_, rfl⟩
        have hArm := fun W => arm_cells x y k hlt (by omega) (by omega) W
        rw [hab, hak] at hArm
        rw [hak] at hg
        have HAB := Lib.hid hab
        clear hab hak
        go_wp2_with (first | (go_at_call 129; refine (hArm _).mono ?_; rintro e w2 ⟨rfl, hb2⟩; have hA2 := hA.below hb2; have hC2 := hC.below hb2; have hR2 := (hR.below hb2).below (bl_alloc (bl_alloc bl_refl (.cells #[.int .i64 ax, .int .i64 ay, .int .i64 az] 46)) (.cells #[.int .i64 kx, .int .i64 ky] 32)); have fA2 := hA2.facts; have fC2 := hC2.facts) |
          (refine wpList_store_blk hR2 rfl _ _ _ rfl rfl rfl (by rfl) (by kernel_rfl) (by kernel_rfl) ?_; intro w3 hR3 hc3))
        have fR3 := hR3.facts
        have hbw2 : Below w.heap.size w w2 := by (repeat (first | exact bl_refl | assumption | (apply bl_then; assumption) | refine bl_alloc ?_ _ | refine bl_drew ?_ | refine bl_drewN ?_ _))
        have hbw3 : Below w.heap.size w w3 := (((Chg.of_below hbw2).alloc _).alloc _ |>.trans (hc3.mono (S' := [w.heap.size + 1 + 1]) (by simp))).below (by simp; omega) (Nat.le_refl _)
        refine bodyPost_ret (v := .tuple #[.agg #[.int .i64 ax, .int .i64 ay, .int .i64 az], .bool true]) (by simp [results, Tryz.results106, go_sem, fR3]) rfl ?_
        exact ⟨by rw [HB.out.1, HB.out.2, HAB.out], hbw3⟩
    · have hbt := betw_none (fun i hi => H.out i (by omega))
      have HB := Lib.hid hbt
      clear hbt
      go_wp2_with (refine wpList_store_blk hR rfl _ _ _ rfl rfl rfl (by rfl) (by kernel_rfl) (by kernel_rfl) ?_; intro w3 hR3 hc3)
      have fR3 := hR3.facts
      have hbw3 : Below w.heap.size w w3 := ((Chg.of_below hbw).trans (hc3.mono (S' := [w.heap.size + 1 + 1]) (by simp))).below (by simp; omega) (Nat.le_refl _)
      refine bodyPost_ret (v := .tuple #[.agg #[.int .i64 0, .int .i64 0, .int .i64 0], .bool false]) (by simp [results, Tryz.results106, go_sem, fR3]) rfl ?_
      exact ⟨by rw [HB.out.1, HB.out.2], hbw3⟩
end Go.Proofs.YtpompeancmonbaaGreat
