/- BaleShortest, plain: all that it looks at. Conditions: the pieces are valid and short. -/
import Derived.Test.YtpcgeihemkhkjaaGreatDoorR37
import Derived.Test.YtpcgeihemkhkjaaGreatDoorR39
import Derived.Test.YtpcgeihemkhkjaaGreatDoorR30
import Derived.Test.YtpcgeihemkhkjaaGreatDoorR35
import Derived.Test.YtpcgeihemkhkjaaGreatDoorR47
import Derived.Test.YtpcgeihemkhkjaaGreatDoorR46
namespace Go.Proofs.YtpcgeihemkhkjaaGreatDoor
open Go.RowKit Go.ChangeMaps
set_option maxHeartbeats 4000000
set_option maxRecDepth 100000
def bigB (n : Int) : Bal := ([98], 256, n)
theorem bigB_ok {n : Int} (h : 1 ≤ n ∧ n ≤ 2000) : balE (bigB n) = 0 := by
 have h1 : nameR [98] = true := by kernel_rfl
 unfold balE bigB withinI whenI
 simp only [h1]
 have h2 : (decide (n < 1) || decide (2000 < n)) = false := by simp; omega
 rw [h2]
 rfl
theorem bst_is {l : List Pan} (hp : pieE l = 0) (h3 : l.length ≤ 3) {n : Int} (hn : 1 ≤ n ∧ n ≤ 2000) : bstR (bigB n) l = match bestP (bigB n) l with
  | none => ([], 0, 23)
  | some z => (z.1, z.2, 0) := by
 have : bstE0 (bigB n) l = 0 := by
  unfold bstE0
  rw [bigB_ok hn, hp]
  simp [firstI, whenI]
  omega
 unfold bstR
 rw [if_pos this]
 cases bestP (bigB n) l <;> rfl
theorem short_facts {l : List Pan} (h : Pcs l) (hp : pieE l = 0) (h3 : l.length ≤ 3) (hne : l ≠ []) :
  ∃ (x : List Plc) (n : Int), bstR (bigB 2000) l = (x, n, 0) ∧ (1 ≤ n ∧ n ≤ 200) ∧ cpnE (bigB 2000) l x = 0 ∧ x.length = l.length ∧ bothE l x = 0 ∧ lenP l x = n ∧ (∀ o, Ordr l o → (∀ z ∈ o, z.2.2 = 0) → n ≤ lenP l (layP l o)) ∧
   (boundP (bigB 2000) l).1 ≤ n ∧ (boundP (bigB 2000) l).2 ≤ n ∧ bndE (bigB 2000) l = 0 ∧ bstR (bigB n) l = (x, n, 0) ∧ (n ≠ 1 → bstR (bigB (n - 1)) l = ([], 0, 23)) := by
 have hb : 16 ≤ (bigB 2000).2.1 ∧ 200 ≤ (bigB 2000).2.2 := by unfold bigB; simp
 obtain ⟨x, n, hB⟩ := best_there h h3 hne hb
 obtain ⟨o, ho, rfl⟩ := hB.laid
 have hl := ho.len h
 have hn := hB.len
 have hq : bothE l (layP l o) = 0 := by
  unfold bothE
  rw [if_pos hp]
  exact ho.places h
 have hc : cpaE (bigB 2000) l (layP l o) = 0 := by unfold cpaE; rw [bigB_ok (by omega), hq]; rfl
 have hal := lay_all ho.all_
 have hbd := bound_le h.v hal (layP_even l o) hB.fit (lay_ne ho.ne) (b := bigB 2000) (by unfold bigB; simp)
 have hag := fun k hk => best_again h h3 hne hb hB [98] k hk
 refine ⟨layP l o, n, ?_, by omega, ?_, ?_, hq, hn.symm, ?_, by rw [hn]; exact hbd.1, by rw [hn]; exact hbd.2, ?_, ?_, ?_⟩
 ·rw [bst_is hp h3 (by omega), hB.is_]
 ·unfold cpnE; rw [if_pos hc]; exact hB.fit
 ·have := hal.length_eq
  simpa [idsP] using this
 ·intro o' ho' hz
  exact hB.least o' (ord_mem ho'.all_ hz)
 ·unfold bndE; rw [bigB_ok (by omega), hp]; rfl
 ·rw [bst_is hp h3 (by omega)]
  have := (hag n (by omega)).1 rfl
  change bestP (bigB n) l = _ at this
  rw [this]
 ·intro h1
  rw [bst_is hp h3 (by omega)]
  have := (hag (n - 1) (by omega)).2 (by omega)
  change bestP (bigB (n - 1)) l = _ at this
  rw [this]
end Go.Proofs.YtpcgeihemkhkjaaGreatDoor
namespace Go.Proofs.YtpcgeihemkhkjaaGreatDoor
open Go.RowKit Go.ChangeMaps
set_option maxHeartbeats 4000000
set_option maxRecDepth 100000
attribute [local go_sem] Oper.semAt_some
theorem u16_range {n : Int} (h : (Lit.int .u16 n).wf = true) : 0 ≤ n ∧ n ≤ 65535 := by
 simp [Lit.wf, IntKind.min, IntKind.max, IntKind.signed, IntKind.bits] at h
 omega
theorem iotaL_range : ∀ n, iotaL n = (List.range n).map fun (i : Nat) => (i : Int)
 | 0 => rfl
 | n + 1 => by rw [iotaL, iotaL_range n, List.range_succ, List.map_append]; rfl
def ordW (n : Nat) (key ways : Int) : List Plc := ordO ways.toNat (drawL (1 + key) n)
theorem ordW_ordr {l : List Pan} {key ways : Int} (h3 : l.length ≤ 3) (hne : l ≠ []) : Ordr l (ordW l.length key ways) := ordO_ordr (by rw [← iotaL_range]; exact drawL_perm _ _) h3 hne
theorem ordW_zero {n : Nat} {key ways : Int} : ∀ x ∈ ordW n key ways, x.2.2 = 0 := ordO_zero
theorem ordW_len (n : Nat) (key ways : Int) : (ordW n key ways).length = n := by unfold ordW ordO; rw [List.length_map, drawL_length]
theorem ord_places {l : List Pan} {o : List Plc} (ho : Ordr l o) (hz : ∀ x ∈ o, x.2.2 = 0) : plcE l.length o = 0 := by
 have hf := ho.few
 refine plc_zero (by omega) ?_ fun x hx => ⟨ho.all_.in_ x hx, ?_⟩
 ·have := ho.all_
  unfold AllP at this
  rw [this.nodup_iff]
  unfold List.Nodup
  rw [List.pairwise_map]
  exact List.nodup_range.imp fun {a b} h e => h (by omega)
 ·have := hz x hx
  exact atE_zero (by omega) (by omega)
theorem ord_both {l : List Pan} {o : List Plc} (hp : pieE l = 0) (ho : Ordr l o) (hz : ∀ x ∈ o, x.2.2 = 0) : bothE l o = 0 := by
 unfold bothE
 rw [if_pos hp]
 exact ord_places ho hz
theorem lay_both5 {l : List Pan} (h : Pcs l) {o : List Plc} (hp : pieE l = 0) (ho : Ordr l o) : bothE l (layP l o) = 0 := by
 unfold bothE
 rw [if_pos hp]
 exact ho.places h
theorem vld_of {l : List Pan} {k : Int} (h : vldP l k = true) : (l.length : Int) ≤ k ∧ shortPs l k 8 = true ∧ pieE l = 0 := by
 unfold vldP at h
 simp only [Bool.and_eq_true, decide_eq_true_eq] at h
 exact h
theorem and_one_u16 (n : Nat) (h : n ≤ 65535) : bits BinOp.and IntKind.u16 (n : Int) 1 = ((n % 2 : Nat) : Int) := by
 have h1 : (BitVec.ofInt 16 (n : Int)).toNat = n := by
  rw [BitVec.ofInt_natCast, BitVec.toNat_ofNat]
  exact Nat.mod_eq_of_lt (by omega)
 have h2 : (BitVec.ofInt 16 (1 : Int)).toNat = 1 := by decide
 show IntKind.u16.wrap ((BitVec.ofInt 16 (n : Int) &&& BitVec.ofInt 16 1).toNat : Int) = _
 rw [BitVec.toNat_and, h1, h2, Nat.and_one_is_mod]
 rcases (show n % 2 = 0 ∨ n % 2 = 1 by omega) with e | e <;> rw [e] <;> decide
theorem bit_at {n d i : Nat} (hd : d = 2 ^ i) (h : n ≤ 65535) : (bits BinOp.and IntKind.u16 (((n / d : Nat)) : Int) 1 == 1) = n.testBit i := by
 subst hd
 have hl : n / 2 ^ i ≤ 65535 := Nat.le_trans (Nat.div_le_self _ _) h
 rw [and_one_u16 _ hl, Nat.testBit_eq_decide_div_mod_eq]
 rcases (show n / 2 ^ i % 2 = 0 ∨ n / 2 ^ i % 2 = 1 by omega) with e | e <;> rw [e] <;> decide
theorem ordW_at {n : Nat} {key ways : Int} {k : Nat} (hk : k < n) : ∃ i : Nat, i < n ∧ (drawL (1 + key) n)[k]? = some (i : Int) ∧ (ordW n key ways).take (k + 1) = (ordW n key ways).take k ++ [((i : Int), ways.toNat.testBit i, 0)] := by
 have hl := drawL_length (1 + key) n
 have hkl : k < (drawL (1 + key) n).length := by omega
 have hm := drawL_in (List.getElem_mem hkl)
 have hko : k < (ordW n key ways).length := by rw [ordW_len]; exact hk
 refine ⟨((drawL (1 + key) n)[k]).toNat, by omega, ?_, ?_⟩
 ·rw [List.getElem?_eq_getElem hkl, Int.toNat_of_nonneg hm.1]
 ·have e : (ordW n key ways)[k]'hko = ((drawL (1 + key) n)[k], ways.toNat.testBit ((drawL (1 + key) n)[k]).toNat, 0) := List.getElem_map ..
  rw [List.take_succ_eq_append_getElem hko, e, Int.toNat_of_nonneg hm.1]
theorem slP_shape {W : World} {v : Value} {l : List Pan} (h : SlP W v l) : ∃ A c, v = .slice A l.length c := by
 obtain ⟨xs, ⟨A, c, rfl, _⟩, hx⟩ := h
 exact ⟨A, c, by rw [hx.len]⟩
theorem l5order_any (n : Nat) (key ways : Int) (hk : 0 ≤ key ∧ key ≤ 65535) (hw : 0 ≤ ways ∧ ways ≤ 65535) (hn : n ≤ 3) (w : World) : Calls Tryz.prog 14 #[.int .i64 n, .int .u16 key, .int .u16 ways] w (RG5 plc 3 100 w (ordW n key ways)) := by
 have cD := fun W => rdraw_any (1 + key) n (by omega) (by omega) W
 have HAT := Lib.hid (fun (k : Nat) (hk : k < n) => ordW_at (key := key) (ways := ways) hk)
 have HDL := Lib.hid (drawL_length (1 + key) n)
 have HOL := Lib.hid (ordW_len n key ways)
 obtain ⟨D, hD⟩ : ∃ z, drawL (1 + key) n = z := ⟨_, rfl⟩
 rw [hD] at cD HAT HDL
 have HDB : Hid (D.length = n) := HDL.out
 obtain ⟨O, hO⟩ : ∃ z, ordW n key ways = z := ⟨_, rfl⟩
 rw [hO] at HAT HOL ⊢
 obtain ⟨wn, rfl⟩ : ∃ z : Nat, ways = (z : Int) := ⟨ways.toNat, by omega⟩
 clear hD hO HDL
 go_enter Tryz.func14, Tryz.ntmps14
 go_wp2_with fail
 refine (cD _).mono ?_
 rintro e w1 ⟨v1, rfl, hO1, hb1⟩
 obtain ⟨A1, c1, rfl⟩ := hO1.shape
 obtain ⟨_, _, he1, _, _, r1⟩ := hO1.rd ic_len
 obtain ⟨rfl, rfl⟩ : A1 = _ ∧ c1 = _ := by simpa using he1
 rw [HDB.out]
 clear hO1 he1
 go_wp2
 go_loopw [7, 16] (fun o i wr => ∃ k : Nat, k ≤ n ∧ i = .int .i64 k ∧ Own plc 3 w1.heap.size 100 wr o (O.take k) ∧ Below w1.heap.size w1 wr) (fun _ i _ => n - (intOf i).toNat)
 case atStart => exact ⟨0, Nat.zero_le _, rfl, Own.nil_, bl_refl⟩
 case round =>
  obtain ⟨k, hk, rfl, hO, hb⟩ := hrel
  obtain ⟨wo, rfl⟩ : ∃ x, x = wr := ⟨_, rfl⟩
  by_cases hlt : k < n
  ·obtain ⟨i, hi, hd, htk⟩ := HAT.out k hlt
   have hkD : k < D.length := by rw [HDB.out]; exact hlt
   obtain ⟨b, off, rfl, hbk, e0⟩ := (r1.below hb).int hkD
   rw [List.getElem?_eq_getElem hkD, Option.some.injEq] at hd
   rw [hd] at e0
   have HT := Lib.hid htk
   have hlk : (O.take k).length ≤ 100000 := by rw [List.length_take]; omega
   obtain ⟨P, hP⟩ : ∃ z, O.take k = z := ⟨_, rfl⟩
   rw [hP] at hO HT hlk
   have hs : w1.heap.size ≤ wo.heap.size := hb.size
   clear hP hd htk hkD
   rcases (show i = 0 ∨ i = 1 ∨ i = 2 by omega) with rfl | rfl | rfl
   ·have hx : (bits BinOp.and IntKind.u16 (wn : Int) 1 == 1) = wn.testBit 0 := by have h := bit_at (n := wn) (d := 1) (i := 0) rfl (by omega); rwa [Nat.div_one] at h
    obtain ⟨T, hT⟩ : ∃ z, wn.testBit 0 = z := ⟨_, rfl⟩
    rw [Int.toNat_natCast, hT] at HT
    rw [hT] at hx
    have hu := Sl.oneG (enc := plc) (sz := 3) wo 100 ((0 : Int), T, 0) #[.int .i64 0, .bool T, .int .i64 0] rfl
    clear hT
    go_wp2_with (at_builtin; refine wpList_app rfl plc_elem plc_len plc_one _ _ rfl w1.heap.size _ _ _ [((0 : Int), T, 0)] rfl rfl (hO.alloc _) hu (by simp [maxLen]; omega) (by simp; omega) (by simp; omega) ?_; intro v9 w9 hO9 hg9)
    have hb9 : Below w1.heap.size w1 w9 := bl_grown hg9 (bl_alloc hb _) (fun j e => (hO.lt j e).1)
    go_wp2
    go_roundw
    case rel => exact ⟨k + 1, by omega, by go_num, by rw [HT.out]; exact hO9, hb9⟩
    case measure => simp [intOf]; omega
   ·have hx : (bits BinOp.and IntKind.u16 ((wn : Int) / 2) 1 == 1) = wn.testBit 1 := bit_at (n := wn) (d := 2) (i := 1) rfl (by omega)
    obtain ⟨T, hT⟩ : ∃ z, wn.testBit 1 = z := ⟨_, rfl⟩
    rw [Int.toNat_natCast, hT] at HT
    rw [hT] at hx
    have hu := Sl.oneG (enc := plc) (sz := 3) wo 100 ((1 : Int), T, 0) #[.int .i64 1, .bool T, .int .i64 0] rfl
    clear hT
    go_wp2_with (at_builtin; refine wpList_app rfl plc_elem plc_len plc_one _ _ rfl w1.heap.size _ _ _ [((1 : Int), T, 0)] rfl rfl (hO.alloc _) hu (by simp [maxLen]; omega) (by simp; omega) (by simp; omega) ?_; intro v9 w9 hO9 hg9)
    have hb9 : Below w1.heap.size w1 w9 := bl_grown hg9 (bl_alloc hb _) (fun j e => (hO.lt j e).1)
    go_wp2
    go_roundw
    case rel => exact ⟨k + 1, by omega, by go_num, by rw [HT.out]; exact hO9, hb9⟩
    case measure => simp [intOf]; omega
   ·have hx : (bits BinOp.and IntKind.u16 ((wn : Int) / 4) 1 == 1) = wn.testBit 2 := bit_at (n := wn) (d := 4) (i := 2) rfl (by omega)
    obtain ⟨T, hT⟩ : ∃ z, wn.testBit 2 = z := ⟨_, rfl⟩
    rw [Int.toNat_natCast, hT] at HT
    rw [hT] at hx
    have hu := Sl.oneG (enc := plc) (sz := 3) wo 100 ((2 : Int), T, 0) #[.int .i64 2, .bool T, .int .i64 0] rfl
    clear hT
    go_wp2_with (at_builtin; refine wpList_app rfl plc_elem plc_len plc_one _ _ rfl w1.heap.size _ _ _ [((2 : Int), T, 0)] rfl rfl (hO.alloc _) hu (by simp [maxLen]; omega) (by simp; omega) (by simp; omega) ?_; intro v9 w9 hO9 hg9)
    have hb9 : Below w1.heap.size w1 w9 := bl_grown hg9 (bl_alloc hb _) (fun j e => (hO.lt j e).1)
    go_wp2
    go_roundw
    case rel => exact ⟨k + 1, by omega, by go_num, by rw [HT.out]; exact hO9, hb9⟩
    case measure => simp [intOf]; omega
  ·obtain rfl : k = n := by omega
   have HT : Hid (O.take k = O) := by unfold Hid; rw [← HOL.out, List.take_length]
   rw [HT.out] at hO
   go_wp2
   go_ret
   exact ⟨_, rfl, hO.base_mono hb1.size, bl_then hb hb1⟩
end Go.Proofs.YtpcgeihemkhkjaaGreatDoor
