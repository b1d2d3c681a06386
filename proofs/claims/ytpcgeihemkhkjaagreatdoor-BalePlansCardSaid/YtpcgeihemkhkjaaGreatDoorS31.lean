/- Print, walked. Conditions: the variables are laid. -/
import Derived.Test.YtpcgeihemkhkjaaGreatDoorS30
import Derived.Test.YtpcgeihemkhkjaaGreatDoorS20
import Derived.Test.YtpcgeihemkhkjaaGreatDoorS06
import Derived.Test.YtpcgeihemkhkjaaGreatDoorS10
namespace Go.Proofs.YtpcgeihemkhkjaaGreatDoor
open Go.RowKit Go.ChangeMaps
set_option maxHeartbeats 4000000
set_option maxRecDepth 100000
attribute [local go_sem] Oper.semAt_some
structure LayB (w : World) : Prop where
 lay : Lay w
 up : w.cell? ⟨0, 0, none⟩ = some (.string ⟨#[117, 112]⟩)
 dn : w.cell? ⟨0, 1, none⟩ = some (.string ⟨#[100, 111, 119, 110]⟩)
theorem LayB.pos {w : World} (h : LayB w) : 0 < w.heap.size := Z6g h.up
theorem LayB.below {w w' : World} (h : LayB w) (hb : Below w.heap.size w w') : LayB w' :=
 ⟨h.lay.below hb, (hb.cell (p := ⟨0, 0, none⟩) h.pos).trans h.up, (hb.cell (p := ⟨0, 1, none⟩) h.pos).trans h.dn⟩
theorem Znj (d : Nat) (n a n' a' : Int) (t t' : Bool) (w : World) : (Op.equalIn (d + 2) 100 (.agg #[.int .i64 n, .bool t, .int .i64 a]) (.agg #[.int .i64 n', .bool t', .int .i64 a'])).run Tryz.prog w = .ok (decide (n = n') && (decide (t = t') && decide (a = a'))) w := by
 rw [run_equalIn_struct w (d + 1) 100 _ _ (by kernel_rfl) (by kernel_rfl)]
 by_cases h1 : n = n' <;> by_cases h2 : t = t' <;> by_cases h3 : a = a' <;> simp [go_sem, h1, h2, h3]
theorem Znk (n a n' a' : Int) (t t' : Bool) (w : World) : (binOp .neq 100 (.agg #[.int .i64 n, .bool t, .int .i64 a]) (.agg #[.int .i64 n', .bool t', .int .i64 a'])).run Tryz.prog w = .ok (.bool (!(decide (n = n') && (decide (t = t') && decide (a = a'))))) w := by
 simp only [binOp]
 simp [Op.equal, Op.maxDepth, Znj 9998]
theorem Znl (nm : Str) (n : Nat) (t : Bool) (a : Int) (g len : Nat) (b off : Nat) (c : Nat) (w : World) (hL : LayB w) (hg : Blk w g 32 #[.slice (some ⟨b, off, none⟩) len c]) (hb : b < w.heap.size) (hcell : w.cell? ⟨b, off + n * 4, none⟩ = some (.string ⟨nm.toArray⟩)) (hn : n < len) (ha : -1000000 ≤ a ∧ a ≤ 1000000) (hnm : nm.length ≤ 1000000) :
  Calls Tryz.prog 114 #[plV ((n : Int), t, a), .pointer (some ⟨g, 0, none⟩)] w (RV w (sV (nm ++ 32 :: (dirS t ++ 32 :: Lib.itoa a) ++ [10]))) := by
 have hit := fun W (hb : Below w.heap.size w W) => Z6j a (by omega) W (hL.lay.below hb)
 have hil := Lib.itoa_length_le a (by omega) (by omega)
 have HV : Hid (sV (nm ++ 32 :: (dirS t ++ 32 :: Lib.itoa a) ++ [10]) = .string ((((({ data := nm.toArray } ++ { data := #[32] }) ++ { data := (dirS t).toArray }) ++ { data := #[32] }) ++ { data := (Lib.itoa a).toArray }) ++ { data := #[10] })) := by
  unfold Hid sV; congr 1
  apply ByteArray.ext
  simp
 rw [HV.out]
 obtain ⟨I, hI⟩ : ∃ I : ByteArray, ({ data := (Lib.itoa a).toArray } : ByteArray) = I := ⟨_, rfl⟩
 obtain ⟨B, hB⟩ : ∃ I : ByteArray, ({ data := nm.toArray } : ByteArray) = I := ⟨_, rfl⟩
 have hIs : I.size ≤ 100 := by rw [← hI]; simp [ByteArray.size]; omega
 have hBs : B.size ≤ 1000000 := by rw [← hB]; simpa [ByteArray.size] using hnm
 rw [hI] at hit ⊢
 rw [hB] at hcell ⊢
 clear hI hB HV hnm hil
 unfold plV
 simp only
 have e0 := hL.up
 have e1 := hL.dn
 have hp := hL.pos
 have hX := Blk.new w 100 #[.int .i64 n, .bool t, .int .i64 a]
 have hX1 := hX.alloc (.cells #[.int .i64 n, .bool false, .int .i64 a] 100)
 have hg1 := (hg.alloc (.cells #[.int .i64 n, .bool t, .int .i64 a] 100)).alloc (.cells #[.int .i64 n, .bool false, .int .i64 a] 100)
 have fX := hX.facts
 have fX1 := hX1.facts
 have fg1 := hg1.facts
 have hbw1 : Below w.heap.size w ((w.alloc (.cells #[.int .i64 n, .bool t, .int .i64 a] 100)).alloc (.cells #[.int .i64 n, .bool false, .int .i64 a] 100)) := Z04 (Z04 Z03 _) _
 have hc1 := (hbw1.cell (p := ⟨b, off + n * 4, none⟩) hb).trans hcell
 have hN := Znk n a n a t false
 rw [decide_eq_true rfl, decide_eq_true rfl, Bool.true_and, Bool.and_true] at hN
 cases t
 ·rw [show (!decide (false = false)) = false from rfl] at hN
  go_enter Tryz.func114, Tryz.ntmps114
  go_upto_region 5 with fail; obtain ⟨w1, hw1⟩ : ∃ X, (w.alloc (.cells #[.int .i64 n, .bool false, .int .i64 a] 100)).alloc (.cells #[.int .i64 n, .bool false, .int .i64 a] 100) = X := ⟨_, rfl⟩
  obtain ⟨gx, hgx⟩ : ∃ X, w.heap.size = X := ⟨_, rfl⟩
  have hb1 : b < w1.heap.size := by have := hbw1.size; rw [← hw1]; omega
  have hD1 : ({ data := (dirS false).toArray } : ByteArray).size ≤ 10 := by decide
  rw [hw1] at fX1 fg1 hc1; rw [hw1] at hX1 hg1 hbw1; rw [hw1]; clear fX hw1 fX1 fg1 e0 e1 hN hgx hX; have fX1 := hX1.facts
  have fg1 := hg1.facts
  have hszd : (dirS false).toArray = #[117, 112] := rfl
  rw [hszd]; refine Z0z [0, 1, 2, 3, 4, 5, 6, 7, 8, 9, 10, 11] [(12, false)] [13, 14, 15] (by kernel_rfl) (by kernel_rfl) (fun d _ _ _ _ h => by cases d <;> exact h) ?_
  simp only [List.map_cons, List.map_nil, List.getD_cons_zero, List.getD_cons_succ]; repeat (go_big_quiet_step (fail))
  refine wpQuiet_nil ?_; refine Z11 rfl (fun K hK => ?_); go_simp; refine (hit _ (by (repeat first|exact J0|assumption|(apply J1;assumption)|apply J2|apply J3|apply J4))).mono ?_
  rintro e w2 ⟨rfl, hb2⟩; refine hK _ _ (by (repeat first|exact J0|assumption|(apply J1;assumption)|apply J2|apply J3|apply J4)) ?_
  clear hK K; refine Z10 ?_; go_wp2; go_ret; exact ⟨rfl, by (repeat first|exact J0|assumption|(apply J1;assumption)|apply J2|apply J3|apply J4)⟩
 ·rw [show (!decide (true = false)) = true from rfl] at hN
  go_enter Tryz.func114, Tryz.ntmps114
  go_upto_region 5 with fail; obtain ⟨w1, hw1⟩ : ∃ X, (w.alloc (.cells #[.int .i64 n, .bool true, .int .i64 a] 100)).alloc (.cells #[.int .i64 n, .bool false, .int .i64 a] 100) = X := ⟨_, rfl⟩
  obtain ⟨gx, hgx⟩ : ∃ X, w.heap.size = X := ⟨_, rfl⟩
  have hb1 : b < w1.heap.size := by have := hbw1.size; rw [← hw1]; omega
  have hD1 : ({ data := (dirS true).toArray } : ByteArray).size ≤ 10 := by decide
  rw [hw1] at fX1 fg1 hc1; rw [hw1] at hX1 hg1 hbw1; rw [hw1]; clear fX hw1 fX1 fg1 e0 e1 hN hgx hX; have fX1 := hX1.facts
  have fg1 := hg1.facts
  have hszd : (dirS true).toArray = #[100, 111, 119, 110] := rfl
  rw [hszd]; refine Z0z [0, 1, 2, 3, 4, 5, 6, 7, 8, 9, 10, 11] [(12, false)] [13, 14, 15] (by kernel_rfl) (by kernel_rfl) (fun d _ _ _ _ h => by cases d <;> exact h) ?_
  simp only [List.map_cons, List.map_nil, List.getD_cons_zero, List.getD_cons_succ]; repeat (go_big_quiet_step (fail))
  refine wpQuiet_nil ?_; refine Z11 rfl (fun K hK => ?_); go_simp; refine (hit _ (by (repeat first|exact J0|assumption|(apply J1;assumption)|apply J2|apply J3|apply J4))).mono ?_
  rintro e w2 ⟨rfl, hb2⟩; refine hK _ _ (by (repeat first|exact J0|assumption|(apply J1;assumption)|apply J2|apply J3|apply J4)) ?_
  clear hK K; refine Z10 ?_; go_wp2; go_ret; exact ⟨rfl, by (repeat first|exact J0|assumption|(apply J1;assumption)|apply J2|apply J3|apply J4)⟩
def ssc (s : Str) : List Value := [sV s]
theorem Znm (s : Str) : (ssc s).length = 1 := rfl
theorem Znn (s : Str) : ∀ u ∈ ssc s, u.oneCell' = true := by intro u hu; simp [ssc] at hu; subst hu; rfl
theorem Zno : Elem Tryz.prog 179 9 1 16 := ⟨by kernel_rfl, by kernel_rfl, by decide⟩
def plxL (l : List Pan) (x : Plc) : Str := Znf l x ++ [10]
theorem Znp {l : List Pan} {k : Nat} (hk : k < l.length) (t : Bool) (a : Int) : plxL l ((k : Int), t, a) = l[k].1 ++ 32 :: (dirS t ++ 32 :: Lib.itoa a) ++ [10] := by
 unfold plxL Znf
 simp only [Int.toNat_natCast]
 rw [List.getD_eq_getElem?_getD, List.getElem?_eq_getElem hk]
 rfl
theorem Znq {v : Value} (l : List Pan) (plan : List Plc) (g : Nat) (w : World) (hL : LayB w) (h : SlP w v l) (hg : Blk w g 32 #[v]) {u : Value} (hp : SlL w u plan) (hnm : ∀ p ∈ l, p.1.length ≤ 1000000) (hi : InL l plan) (hn : Zlh plan 100000) (hpl : plan.length ≤ 16) :
  Calls Tryz.prog 113 #[u, .func (.func 114) #[] #[.pointer (some ⟨g, 0, none⟩)]] w (RG ssc 1 9 w (plan.map (plxL l))) := by
 obtain ⟨xs, ⟨A, c, rfl, hlc, hcm, hr⟩, hx⟩ := h
 obtain ⟨B, d, rfl, _, _, hrp⟩ := hp
 have HLN := Lib.hid hx.len
 have hl1 : xs.length ≤ l.length := Nat.le_of_eq HLN.out
 have hl2 : l.length ≤ xs.length := Nat.le_of_eq HLN.out.symm
 have HN := Lib.hid hn
 have HI := Lib.hid hi
 have HNM := Lib.hid hnm
 have HM : Hid (∀ k (h : k < plan.length), (plan.take (k + 1)).map (plxL l) = (plan.take k).map (plxL l) ++ [plxL l plan[k]]) := by
  intro k h; rw [List.take_succ_eq_append_getElem h, List.map_append]; rfl
 clear hi hn hnm
 go_enter Tryz.func113, Tryz.ntmps113
 go_wp2
 go_loopw [5, 10] (fun o i wr => ∃ (k : Nat), k ≤ plan.length ∧ i = .int .i64 k ∧ Own ssc 1 w.heap.size 9 wr o ((plan.take k).map (plxL l)) ∧ Below w.heap.size w wr) (fun _ i _ => plan.length - (intOf i).toNat)
 case atStart => exact ⟨0, Nat.zero_le _, rfl, Own.nil_, Z03⟩
 case round =>
  obtain ⟨k, hk, rfl, hO, hbw⟩ := hrel; obtain ⟨wo, rfl⟩ : ∃ x, x = wr := ⟨_, rfl⟩
  by_cases hlt : k < plan.length
  ·obtain ⟨b, off, rfl, hb, c0, c1, c2⟩ := (hrp.below hbw).plc hlt
   have ho := HI.out _ (List.getElem_mem hlt)
   have hno := HN.out _ (List.getElem_mem hlt)
   have HT := Lib.hid (HM.out k hlt)
   obtain ⟨⟨n, t, f⟩, hoo⟩ : ∃ o, plan[k] = o := ⟨_, rfl⟩
   rw [hoo] at ho hno c0 c1 c2 HT; obtain ⟨ko, hko0, hko⟩ := ho.nat; simp only at hno c0 c1 c2 hko0
   subst hko0; have hkx : ko < xs.length := by omega
   have hnk := HNM.out _ (List.getElem_mem hko)
   rw [Znp hko] at HT; have hal : Below wo.heap.size wo (wo.alloc (.cells #[.int .i64 ko, .bool t, .int .i64 f] 100)) := Z04 Z03 _
   have hbx := Z08 hal hbw
   obtain ⟨bP, oP, rfl, hbP, e0, e1, e2, e3⟩ := (hr.below hbx).pan (List.getElem?_eq_getElem hkx)
   have hp := hx.get (List.getElem?_eq_getElem hkx) (List.getElem?_eq_getElem hko)
   have hnm2 := hp.nm
   rw [hnm2] at e0; have hP1 := Znl l[ko].1 ko t f g xs.length bP oP c _ (hL.below hbx) (hg.below hbx) hbP e0 hkx (by omega) hnk
   obtain ⟨S, hS⟩ : ∃ S, l[ko].1 ++ 32 :: (dirS t ++ 32 :: Lib.itoa f) ++ [10] = S := ⟨_, rfl⟩
   rw [hS] at hP1 HT; obtain ⟨L, hL2⟩ : ∃ L, (plan.take k).map (plxL l) = L := ⟨_, rfl⟩
   have hLl : L.length ≤ 16 := by rw [← hL2, List.length_map, List.length_take]; omega
   rw [hL2] at hO HT; unfold plV sV at hP1; simp only at hP1
   clear hS hL2 hp hnm2 e0 e1 e2 e3 hnk; obtain ⟨Ao, co, rfl⟩ := hO.shape; go_wp2_with fail; refine (hP1).mono ?_
   rintro e w2 ⟨rfl, hb2⟩; have hal2 : Below wo.heap.size wo w2 := Z08 hb2 hal
   have hO2 := hO.below hal2
   have hbw2 := Z08 hal2 hbw
   have hu := Sl.oneG (enc := ssc) (sz := 1) w2 9 S #[.string ⟨S.toArray⟩] rfl
   clear hO hal hb2 hal2 hP1 hbx; go_wp2_with (at_builtin; refine Z3y rfl Zno Znm Znn _ _ rfl w.heap.size _ _ _ [S] rfl rfl (hO2.alloc _) hu (by simp [maxLen]; omega) (by simp; omega) (by simp; have := hbw2.size; omega) ?_; intro v3 w3 hu3 hgr3)
   have hb3 : Below w.heap.size w w3 := Z09 hgr3 (Z04 hbw2 _) (fun j e => (hO2.lt j e).1)
   go_wp2; go_roundw; case rel => exact ⟨k + 1, by omega, by go_num, by rw [HT.out]; exact hu3, hb3⟩
   case measure => simp [intOf]; omega
  ·obtain rfl : k = plan.length := by omega
   rw [List.take_length] at hO; go_wp2; go_ret; exact ⟨_, rfl, hO, hbw⟩
theorem Znr : ∀ L : List Str, Lib.join L [] = L.flatten
 | [] => rfl
 | [a] => by simp [Lib.join]
 | a :: b :: r => by
  have := Znr (b :: r)
  simp [Lib.join] at this ⊢
  exact this
def prnR (l : List Pan) (plan : List Plc) : Str := if Zmg l plan = 0 then prnB l plan else []
theorem Zns (l : List Pan) (plan : List Plc) : prnB l plan = (plan.map (plxL l)).flatten := by
 unfold prnB
 rw [List.flatMap_def]
 rfl
theorem Znt (L : List Str) (B : Nat) (h : ∀ s ∈ L, s.length ≤ B) : L.flatten.length ≤ L.length * B := by
 induction L with
 | nil => simp
 | cons a r ih =>
  have h1 := h a (List.mem_cons_self ..)
  have h2 := ih fun s hs => h s (List.mem_cons_of_mem _ hs)
  rw [List.flatten_cons, List.length_append, List.length_cons, Nat.succ_mul]; omega
theorem Znu {l : List Pan} (hnm : ∀ p ∈ l, p.1.length ≤ 1000000) {x : Plc} (hx : InP l x) (hn : -100000 ≤ x.2.2 ∧ x.2.2 ≤ 100000) : (plxL l x).length ≤ 1000100 := by
 obtain ⟨n, t, a⟩ := x
 obtain ⟨k, hk0, hk⟩ := hx.nat
 simp only at hk0 hn
 subst hk0
 rw [Znp hk]
 have h1 := hnm _ (List.getElem_mem hk)
 have h2 := Lib.itoa_length_le a (by omega) (by omega)
 have h3 : (dirS t).length ≤ 4 := by cases t <;> decide
 simp only [List.length_append, List.length_cons, List.length_nil]
 omega
theorem Znv (L : List Str) (v : Value) (w : World) {base : Nat} (h : Own ssc 1 base 9 w v L) (hlen : L.length ≤ 1000) (hf : L.flatten.length ≤ 100000000) : Calls Tryz.prog 116 #[v, .string ⟨#[]⟩] w (RV w (sV L.flatten)) := by
 by_cases h0 : L = []
 ·subst h0
  obtain ⟨A, c, rfl⟩ := h.shape; go_enter Tryz.func116, Tryz.ntmps116
  go_wp2; go_ret; exact ⟨rfl, Z03⟩
 ·obtain ⟨A, c, rfl, hc, _, hr⟩ := h.rd Znm
  have hl0 : 0 < L.length := by have := List.length_pos_iff.2 h0; exact this
  obtain ⟨b, off, rfl, hb, _⟩ := hr 0 _ (List.getElem?_eq_getElem hl0)
  have e : Lib.join ((L.map fun s => (⟨s.toArray⟩ : ByteArray)).map (·.data.toList)) (ByteArray.mk #[]).data.toList = L.flatten := by
   rw [List.map_map]; have : (((fun x : ByteArray => x.data.toList) ∘ fun s : Str => (⟨s.toArray⟩ : ByteArray))) = id := by funext s; simp
   rw [this, List.map_id]; exact Znr L
  have hj := Z60 b off c (L.map fun s => ⟨s.toArray⟩) ⟨#[]⟩ w (fun j x hj => by
   rw [List.getElem?_map] at hj
   obtain ⟨s, hs, rfl⟩ : ∃ s, L[j]? = some s ∧ (⟨s.toArray⟩ : ByteArray) = x := by simpa using hj
   obtain ⟨b2, off2, he, _, hcell⟩ := hr j s hs
   obtain ⟨rfl, rfl⟩ : b = b2 ∧ off = off2 := by simpa using he
   have := hcell 0 (sV s) rfl
   rw [Nat.mul_one, Nat.add_zero] at this; exact this) hb (by simp; omega) (by simpa using hc) (by rw [e]; omega)
  rw [e, List.length_map] at hj; exact hj
theorem Znw {v u : Value} (l : List Pan) (plan : List Plc) (w : World) (hL : LayB w) (h : SlP w v l) (hp : SlL w u plan) (hnm : ∀ p ∈ l, p.1.length ≤ 1000000) (hll : l.length ≤ 100000) (hpl : plan.length ≤ 100000) :
  Calls Tryz.prog 53 #[v, u] w (RV w (.tuple #[sV (prnR l plan), .int .i64 (Zmg l plan)])) := by
 have hc := fun W (hb : Below w.heap.size w W) => Zm7 l plan W (h.below hb) (hp.below hb) hnm hll hpl
 rw [Zmm] at hc
 by_cases hE : Zmg l plan = 0
 ·obtain ⟨hPL, hl16, hp16, hIL, hNP, hEV⟩ := Zmh hnm hE
  have hm := fun W g (hb : Below w.heap.size w W) (hg : Blk W g 32 #[v]) => Znq l plan g W (hL.below hb) (h.below hb) hg (hp.below hb) hnm hIL hNP hp16
  have hfl := Znt (plan.map (plxL l)) 1000100 (fun s hs => by
   obtain ⟨x, hx, rfl⟩ := List.mem_map.1 hs
   exact Znu hnm (hIL x hx) (hNP x hx))
  rw [List.length_map] at hfl; have hfl2 : (plan.map (plxL l)).flatten.length ≤ 100000000 := Nat.le_trans hfl (by have : plan.length * 1000100 ≤ 16 * 1000100 := Nat.mul_le_mul_right _ hp16; omega)
  have HJ := Lib.hid (fun v W b (ho : Own ssc 1 b 9 W v (plan.map (plxL l))) => Znv (plan.map (plxL l)) v W ho (by rw [List.length_map]; omega) hfl2)
  have HS : Hid (prnR l plan = (plan.map (plxL l)).flatten) := by unfold Hid prnR; rw [if_pos hE, Zns]
  rw [HS.out, hE]; rw [hE] at hc; obtain ⟨X, hX⟩ : ∃ X, (plan.map (plxL l)).flatten = X := ⟨_, rfl⟩
  rw [hX] at HJ ⊢; obtain ⟨Y, hY⟩ : ∃ X, plan.map (plxL l) = X := ⟨_, rfl⟩
  rw [hY] at HJ hm; obtain ⟨xs, ⟨A, c, rfl, _, _, _⟩, _⟩ := h; obtain ⟨B, d, rfl, _, _, hr⟩ := hp; unfold sV at HJ ⊢; have hG := Blk.new w 32 #[.slice A xs.length c]
  have fhG := hG.facts
  clear hE hPL hIL hNP hEV hfl hfl2 HS hX hY; go_enter Tryz.func53, Tryz.ntmps53
  go_wp2_with fail; refine (hc _ (by (repeat first|exact J0|assumption|(apply J1;assumption)|apply J2|apply J3|apply J4))).mono ?_
  rintro e w2 ⟨rfl, hb2⟩; replace hG := hG.below (show Below _ _ w2 by (repeat first|exact J0|assumption|(apply J1;assumption)|apply J2|apply J3|apply J4))
  replace fhG := hG.facts
  go_wp2_with fail; refine (hm _ _ (by (repeat first|exact J0|assumption|(apply J1;assumption)|apply J2|apply J3|apply J4)) hG).mono ?_
  rintro e w3 ⟨v3, rfl, hO3, hb3⟩; go_wp2_with fail; refine (HJ.out _ _ _ hO3).mono ?_
  rintro e w4 ⟨rfl, hb4⟩; go_wp2; refine bodyPost_ret (v := .tuple #[.string ⟨X.toArray⟩, .int .i64 0]) (by simp [results, Tryz.results53, go_sem]) rfl ?_
  exact ⟨rfl, by (repeat first|exact J0|assumption|(apply J1;assumption)|apply J2|apply J3|apply J4)⟩
 ·have t0 : (Zmg l plan != 0) = true := by simp [hE]
  have HS : Hid (prnR l plan = []) := by unfold Hid prnR; rw [if_neg hE]
  rw [HS.out]; obtain ⟨E, hEE⟩ : ∃ E, Zmg l plan = E := ⟨_, rfl⟩
  rw [hEE] at hc t0 ⊢; obtain ⟨xs, ⟨A, c, rfl, _, _, _⟩, _⟩ := h; obtain ⟨B, d, rfl, _, _, hr⟩ := hp; have hG := Blk.new w 32 #[.slice A xs.length c]
  have fhG := hG.facts
  clear hE hEE; go_enter Tryz.func53, Tryz.ntmps53
  go_wp2_with fail; refine (hc _ (by (repeat first|exact J0|assumption|(apply J1;assumption)|apply J2|apply J3|apply J4))).mono ?_
  rintro e w2 ⟨rfl, hb2⟩; replace hG := hG.below (show Below _ _ w2 by (repeat first|exact J0|assumption|(apply J1;assumption)|apply J2|apply J3|apply J4))
  replace fhG := hG.facts
  go_wp2; refine bodyPost_ret (v := .tuple #[.string ⟨#[]⟩, .int .i64 E]) (by simp [results, Tryz.results53, go_sem]) rfl ?_
  exact ⟨rfl, by (repeat first|exact J0|assumption|(apply J1;assumption)|apply J2|apply J3|apply J4)⟩
theorem Znx (s : Str) (hs : s.length ≤ 1000000) (w : World) (hL : Lay w) : Calls Tryz.prog 120 #[sV s] w (RV w (.tuple #[.int .i64 (intR s).1, .bool (intR s).2])) := by
 have hsz : (({ data := s.toArray } : ByteArray)).size = s.length := by simp [ByteArray.size]
 cases ha : Lib.atoiAll s
 ·rename_i v
  have hb := Lib.atoiAll_bounds ha
  have HR : Hid (intR s = (v, decide (Lib.itoa v = s) && decide (max v (wrap64 (-v)) < 1000000))) := by unfold Hid intR; rw [ha]; simp only [show decide (max v (wrap64 (-v)) ≤ 999999) = decide (max v (wrap64 (-v)) < 1000000) from decide_eq_decide.2 (by omega)]
  have hc : Calls Tryz.prog 175 #[sV s] w (RV w (.tuple #[.int .i64 v, .nilIface])) := by
   refine (Z66 ⟨s.toArray⟩ (by rw [hsz]; omega) v ha w).mono ?_
   rintro e w' ⟨rfl, rfl | ⟨t, rfl⟩⟩
   ·exact ⟨rfl, Z03⟩
   ·exact ⟨rfl, rfl, rfl, rfl, by rw [Lib.bytesWorld_size]; omega, fun j hj => Lib.bytesWorld_at_old w _ t j hj⟩
  clear ha; unfold sV at hc ⊢; go_enter Tryz.func120, Tryz.ntmps120
  go_wp2_with fail; refine hc.mono ?_
  rintro e w1 ⟨rfl, hb1⟩; have hi := Za8 v hb w1 (hL.below hb1)
  go_wp2_with (go_at_call 115; refine hi.mono ?_; rintro e w2 ⟨rfl, hb2⟩)
  ·rename_i hq
   have hR2 : Hid (intR s = (v, decide (max v (wrap64 (-v)) < 1000000))) := by unfold Hid; rw [HR.out, decide_eq_true hq, Bool.true_and]
   go_ret2
   exact ⟨by rw [hR2.out]; rfl, Z08 hb2 hb1⟩
  ·rename_i hq
   have hR2 : Hid (intR s = (v, false)) := by unfold Hid; rw [HR.out, decide_eq_false hq, Bool.false_and]
   go_ret2
   exact ⟨by rw [hR2.out]; rfl, Z08 hb2 hb1⟩
 ·have HR : Hid (intR s = (0, false)) := by unfold Hid intR; rw [ha]
  obtain ⟨ev, hev, hev2⟩ := hL.es
  have hc : Calls Tryz.prog 175 #[sV s] w (fun e w' => ∃ N, e = .returned (.tuple #[.int .i64 (0), .iface 310 (.pointer (some ⟨N, 0, none⟩))]) ∧ w.heap.size ≤ N ∧ w'.heap[N]? = some (.cells #[.string ⟨#[65, 116, 111, 105]⟩, .string ⟨s.toArray⟩, ev] 327 (0, 0)) ∧ Below w.heap.size w w') :=
   Any.strconv_Atoi_syntax Z65 ⟨s.toArray⟩ (by rw [hsz]; omega) ha ev w hev hev2
  clear ha; unfold sV at hc ⊢; go_enter Tryz.func120, Tryz.ntmps120
  go_wp2_with fail; refine hc.mono ?_
  rintro e w1 ⟨N, rfl, hN, hNB, hb1⟩; go_wp2; go_ret2
  exact ⟨by rw [HR.out]; rfl, hb1⟩
 ·have HR : Hid (intR s = (Lib.atoiSat s, false)) := by unfold Hid intR; rw [ha]
  obtain ⟨ev, hev, hev2⟩ := hL.er
  have hc : Calls Tryz.prog 175 #[sV s] w (fun e w' => ∃ N, e = .returned (.tuple #[.int .i64 (Lib.atoiSat s), .iface 310 (.pointer (some ⟨N, 0, none⟩))]) ∧ w.heap.size ≤ N ∧ w'.heap[N]? = some (.cells #[.string ⟨#[65, 116, 111, 105]⟩, .string ⟨s.toArray⟩, ev] 327 (0, 0)) ∧ Below w.heap.size w w') :=
   Any.strconv_Atoi_range Z65 ⟨s.toArray⟩ (by rw [hsz]; omega) ha ev w hev hev2
  clear ha; unfold sV at hc ⊢; go_enter Tryz.func120, Tryz.ntmps120
  go_wp2_with fail; refine hc.mono ?_
  rintro e w1 ⟨N, rfl, hN, hNB, hb1⟩; go_wp2; go_ret2
  exact ⟨by rw [HR.out]; rfl, hb1⟩
theorem Zny (s : Str) (h : s ≠ []) : ∃ a r q, Lib.cut s [10] = (a, r, q) ∧ r.length < s.length ∧ a.length ≤ s.length ∧ ((q = true ∧ Zaf s = (a ++ [10]) :: Zaf r) ∨ (q = false ∧ r = [] ∧ Zaf s = [a] ∧ nlB a = false)) := by
 have hge := Lib.indexByte_ge s 10
 have hix := Lib.index_one s 10
 have hpos : 0 < s.length := List.length_pos_iff.2 h
 unfold Lib.cut
 rw [hix]
 by_cases h1 : Lib.indexByte s 10 = -1
 ·rw [h1, if_neg (by omega)]
  refine ⟨_, _, _, rfl, by simpa using hpos, Nat.le_refl _, .inr ⟨rfl, rfl, Zag h1 h, ?_⟩⟩
  have hm := Zna h1
  unfold nlB; rw [decide_eq_false_iff_not]; exact fun e => hm (List.mem_of_getLast? e)
 ·obtain ⟨j, hj⟩ : ∃ j : Nat, Lib.indexByte s 10 = (j : Int) := ⟨(Lib.indexByte s 10).toNat, by omega⟩
  obtain ⟨e1, e2⟩ := Zn9 hj
  rw [hj, if_pos (by omega)]
  refine ⟨_, _, _, rfl, ?_, ?_, .inl ⟨rfl, ?_⟩⟩
  ·simp; omega
  ·simp; omega
  ·have e3 := Znd (s.drop (j + 1)) e2
   rw [← e1] at e3; simpa using e3
theorem Znz (s : Str) (hs : s.length ≤ 1000000) (w : World) (hL : Lay w) : Calls Tryz.prog 117 #[sV s, sV [10]] w (RV w (.tuple #[sV (Lib.cut s [10]).1, sV (Lib.cut s [10]).2.1, .bool (Lib.cut s [10]).2.2])) := by
 obtain ⟨m, hm⟩ := hL.mx
 refine (Z69 ⟨s.toArray⟩ ⟨#[10]⟩ m w (by simp [ByteArray.size]; omega) hm).mono ?_
 rintro e w' ⟨rfl, n, rfl⟩
 exact ⟨rfl, Z06 Z03 n⟩
theorem Z3h.lookC {κ ν : Type} [DecidableEq κ] {ek : κ → Value} {ev : ν → Value} {w : World} {r c : Nat} {m : List (κ × ν × Nat)} {t k e : TypeId} (h : Z3h ek ev w r m c) (K : Z3i Tryz.prog k ek) (ht : Tryz.prog.underlying t = some (.map k e)) {z : Value} (hz : (zeroValue e).run Tryz.prog w = .ok z w) (a : κ) :
  (Instr.lookup t (.map (some r)) (ek a) true).run Tryz.prog w = .ok (.tuple #[match mget a m with | some v => ev v | none => z, .bool (mget a m).isSome]) w := by
 simp only [Instr.lookup, Sem.run_bind, run_underlying ht, Result.andThen_ok, MapKept.run_getObj_map h, K.ok, Z3l (ev := ev) K a, Sem.run_pure]
 rw [Z3m]
 cases hq : m.findIdx? (fun x => decide (a = x.1)) with
 | none => simp [hz]
 | some j =>
  have hj : j < m.length := by
   have := List.findIdx?_eq_some_iff_findIdx_eq.1 hq
   omega
  simp [List.getElem?_eq_getElem hj]
def idxK (l : List Pan) (nm : Str) (k : Nat) : Option Nat := (List.range k).foldl (idxS l nm) none
theorem Zo0 (l : List Pan) (nm : Str) (k : Nat) : idxK l nm (k + 1) = if (l.getD k Zio).1 = nm then some k else idxK l nm k := by
 unfold idxK
 rw [List.range_succ, List.foldl_append, List.foldl_cons, List.foldl_nil]
 rfl
theorem Zo1 (l : List Pan) (nm : Str) : idxK l nm l.length = idxP l nm := rfl
def NmAt (w : World) (r : Nat) (l : List Pan) (k : Nat) : Prop := ∃ m c, Z3h sV cntV w r m c ∧ MOk m c ∧ ∀ q, mget q m = idxK l q k
theorem Zo2 : Tryz.prog.underlying 185 = some (.map 9 3) := by kernel_rfl
section
variable {w w' : World} {r k : Nat} {l : List Pan}
theorem NmAt.new (w : World) (l : List Pan) : NmAt (w.alloc (.map #[] 0)) w.heap.size l 0 := ⟨[], 0, Z3h.new w sV cntV, MOk.nil_, fun q => by simp [mget, idxK]⟩
theorem NmAt.below (h : NmAt w r l k) (hb : Below w.heap.size w w') : NmAt w' r l k := by
 obtain ⟨m, c, h1, h2⟩ := h
 exact ⟨m, c, h1.below hb, h2⟩
theorem NmAt.look (h : NmAt w r l k) (q : Str) : (Instr.lookup 185 (.map (some r)) (.string ⟨q.toArray⟩) true).run Tryz.prog w = .ok (.tuple #[.int .i64 (((idxK l q k).getD 0 : Nat) : Int), .bool (idxK l q k).isSome]) w := by
 obtain ⟨m, c, h1, h2, h3⟩ := h
 refine (h1.lookC Zj6 Zo2 (Z5u w) q).trans ?_
 rw [h3 q]
 cases idxK l q k <;> rfl
theorem NmAt.put (h : NmAt w r l k) (nm : Str) (hn : (l.getD k Zio).1 = nm) :
  ∃ w2, (Instr.mapUpdate 185 (.map (some r)) (.string ⟨nm.toArray⟩) (.int .i64 (k : Int))).run Tryz.prog w = .ok () w2 ∧ NmAt w2 r l (k + 1) ∧ Chg [r] w w2 ∧ w.grownBy w2 (some r) ∧ w2.heap.size = w.heap.size := by
 obtain ⟨m, c, h1, h2, h3⟩ := h
 have e := h1.put Zj6 Zo2 nm k
 have hC : Chg [r] w (setBlock w r (.map ((mput nm k c m).map (ment sV cntV)).toArray (mclk nm m c))) := Chg.refl.setBlock (by simp) _
 refine ⟨_, e, ⟨mput nm k c m, mclk nm m c, ?_, h2.put _ _, fun q => ?_⟩, hC, ?_, by simp [setBlock]⟩
 ·show (w.heap.setIfInBounds r _)[r]? = _
  rw [Array.getElem?_setIfInBounds_self_of_lt h1.lt]
 ·rw [Z3e, h3 q, Zo0, hn]
  by_cases hq : q = nm
  ·subst hq; simp
  ·rw [if_neg hq, if_neg fun e => hq e.symm]
 ·exact ⟨hC.os, hC.tape, hC.output, hC.size, fun k hk hne => hC.block k hk (by intro hm; apply hne; simp at hm; rw [hm])⟩
end
def dirB (st : Str) : Bool := decide (st = dirS false ∨ st = dirS true)
theorem Zo3 (st : Str) (w : World) (hL : LayB w) : Calls Tryz.prog 119 #[.slice (some ⟨0, 0, none⟩) 2 2, sV st] w (RV w (.bool (dirB st))) := by
 have h := Z6f 0 0 2 2 [⟨#[117, 112]⟩, ⟨#[100, 111, 119, 110]⟩] ⟨st.toArray⟩ w (by simp) (by omega) (fun j hj => by
  match j, hj with
  | 0, _ => exact hL.up
  | 1, _ => exact hL.dn)
 refine h.mono ?_
 rintro e w' ⟨rfl, rfl⟩
 refine ⟨?_, Z03⟩
 have e : Lib.containsS ([(⟨#[117, 112]⟩ : ByteArray), ⟨#[100, 111, 119, 110]⟩].take 2) ⟨st.toArray⟩ = dirB st := by
  unfold dirB; rw [Bool.eq_iff_iff, Lib.containsS_iff, decide_eq_true_iff]; constructor
  ·intro ha
   rw [List.take_of_length_le (by simp), List.mem_cons, List.mem_singleton] at ha
   rcases ha with ha | ha
   ·left; have := congrArg (fun x : ByteArray => x.data.toList) ha; simpa [dirS] using this
   ·right; have := congrArg (fun x : ByteArray => x.data.toList) ha; simpa [dirS] using this
  ·rintro (rfl | rfl)
   ·exact List.mem_cons_self
   ·exact List.mem_cons_of_mem _ List.mem_cons_self
 rw [e]
def useB (out : List Plc) (n : Int) : Bool := out.any fun o => decide (o.1 = n)
theorem Zo4 {out : List Plc} {n : Int} {k : Nat} (hk : k < out.length) (h : useB (out.take k) n = false) : (decide (out[k].1 = n) = false → useB (out.take (k + 1)) n = false) ∧ (decide (out[k].1 = n) = true → useB out n = true) := by
 unfold useB at h ⊢
 constructor
 ·intro he
  rw [List.take_succ_eq_append_getElem hk, List.any_append, h]; simpa using he
 ·intro he
  exact List.any_eq_true.2 ⟨_, List.getElem_mem hk, he⟩
theorem Zo5 (x : Plc) (g : Nat) (n : Int) (w : World) (hg : Blk w g 3 #[.int .i64 n]) : Calls Tryz.prog 122 #[plV x, .pointer (some ⟨g, 0, none⟩)] w (RV w (.bool (decide (x.1 = n)))) := by
 obtain ⟨n1, t, a⟩ := x
 unfold plV
 simp only
 have hX := Blk.new w 100 #[.int .i64 n1, .bool t, .int .i64 a]
 have hg1 := hg.alloc (.cells #[.int .i64 n1, .bool t, .int .i64 a] 100)
 have fX := hX.facts
 have fg1 := hg1.facts
 go_enter Tryz.func122, Tryz.ntmps122
 go_wp2
 go_ret
 exact ⟨rfl, by (repeat first|exact J0|assumption|(apply J1;assumption)|apply J2|apply J3|apply J4)⟩
theorem Zo6 (out : List Plc) (A : Option Addr) (c : Nat) (g : Nat) (n : Int) (w : World) (h : Rd plc 3 w A out) (hl : out.length ≤ 100000) (hg : Blk w g 3 #[.int .i64 n]) :
  Calls Tryz.prog 176 #[.slice A out.length c, .func (.func 122) #[] #[.pointer (some ⟨g, 0, none⟩)]] w (IxP w (useB out n)) := by
 go_enter Tryz.func176, Tryz.ntmps176
 go_wp2
 go_loopw [8] (fun i wr => ∃ k : Nat, k ≤ out.length ∧ i = .int .i64 k ∧ Hid (useB (out.take k) n = false) ∧ Below w.heap.size w wr) (fun i _ => out.length - (intOf i).toNat)
 case atStart => exact ⟨0, Nat.zero_le _, rfl, rfl, Z03⟩
 case round =>
  obtain ⟨k, hk, rfl, HK, hbw⟩ := hrel; by_cases hlt : k < out.length
  ·obtain ⟨b, off, rfl, hb, e0, e1, e2⟩ := (h.below hbw).plc hlt
   have HA := Lib.hid (Zo4 hlt HK.out)
   have hC := Zo5 out[k] g n _ (hg.below hbw)
   obtain ⟨⟨x0, x1, x2⟩, hxx⟩ : ∃ z, out[k] = z := ⟨_, rfl⟩
   rw [hxx] at e0 e1 e2 hC HA; simp only at e0 e1 e2 hC HA
   obtain ⟨q, hq⟩ : ∃ q, decide (x0 = n) = q := ⟨_, rfl⟩
   rw [hq] at hC HA; simp only [plV] at hC; clear hxx hq; cases q
   ·go_wp2_with fail
    refine (hC).mono ?_
    rintro e w2 ⟨rfl, hb2⟩; go_wp2; go_roundw; case rel => exact ⟨k + 1, by omega, by go_num, HA.out.1 (by trivial), by (repeat first|exact J0|assumption|(apply J1;assumption)|apply J2|apply J3|apply J4)⟩
    case measure => simp [intOf]; omega
   ·go_wp2_with fail
    refine (hC).mono ?_
    rintro e w2 ⟨rfl, hb2⟩; go_wp2; go_ret; exact ⟨_, rfl, by rw [HA.out.2 (by trivial)]; simp, by (repeat first|exact J0|assumption|(apply J1;assumption)|apply J2|apply J3|apply J4)⟩
  ·obtain rfl : k = out.length := by omega
   have HE : Hid (useB out n = false) := by have := HK.out; rw [List.take_length] at this; exact this
   go_wp2; go_ret; exact ⟨_, rfl, by rw [HE.out]; rfl, by (repeat first|exact J0|assumption|(apply J1;assumption)|apply J2|apply J3|apply J4)⟩
theorem Zo7 (out : List Plc) (A : Option Addr) (c : Nat) (g : Nat) (n : Int) (w : World) (h : Rd plc 3 w A out) (hl : out.length ≤ 100000) (hg : Blk w g 3 #[.int .i64 n]) :
  Calls Tryz.prog 121 #[.slice A out.length c, .func (.func 122) #[] #[.pointer (some ⟨g, 0, none⟩)]] w (RV w (.bool (useB out n))) := by
 go_enter Tryz.func121, Tryz.ntmps121
 go_wp2_with fail
 refine (Zo6 out A c g n w h hl hg).mono ?_
 rintro e w2 ⟨n2, rfl, hn, hb2⟩
 have HN := Lib.hid hn
 clear hn
 go_wp2
 go_ret
 exact ⟨by rw [← HN.out]; rfl, by (repeat first|exact J0|assumption|(apply J1;assumption)|apply J2|apply J3|apply J4)⟩
end Go.Proofs.YtpcgeihemkhkjaaGreatDoor
