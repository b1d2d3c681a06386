/- The reference: Extent, Gap, Bars, walked. Conditions: the panels are valid. -/
import Derived.Test.YtpcgeihemkhkjaaGreatDoorS43
import Derived.Test.YtpcgeihemkhkjaaGreatDoorS04
import Derived.Test.YtpcgeihemkhkjaaGreatDoorS06
import Derived.Test.YtpcgeihemkhkjaaGreatDoorRows
import Derived.LaidMore
import Derived.Stop.LaidErr
import Derived.Shelf.Vars
import Derived.Lib.LaidTab
import Derived.OpenShut
import Derived.ProofKit
import Derived.Lay
import Derived.SevenTiedAt
import Derived.Handed
import Derived.Test.YtpcgeihemkhkjaaGreatDoorS08
import Derived.WalkKit
import Derived.ShutString
import Derived.ChangeOld
import Derived.Below
import Derived.Lib.SmallJoins
import Derived.Deep.Slices
import Derived.Deep.Strs
import Derived.ChangeMaps5
import Derived.Test.YtpcgeihemkhkjaaGreatDoorS30
import Derived.Test.YtpcgeihemkhkjaaGreatDoorS41
import Derived.Test.YtpcgeihemkhkjaaGreatDoorS39
import Derived.Test.YtpcgeihemkhkjaaGreatDoorS24
import Derived.Test.YtpcgeihemkhkjaaGreatDoorS31
namespace Go.Proofs.YtpcgeihemkhkjaaGreatDoor
open Go.RowKit Go.ChangeMaps
set_option maxHeartbeats 4000000
set_option maxRecDepth 100000
attribute [local go_sem] Oper.semAt_some
def extF (L : List Knot) (k : Nat) : Int × Int := ((L.take k).map (·.1)).foldl Z6o (999999999, -999999999)
theorem Zt0 {L : List Knot} {k : Nat} (hk : k < L.length) : extF L (k + 1) = Z6o (extF L k) L[k].1 := by
 unfold extF
 rw [List.take_succ_eq_append_getElem hk, List.map_append, List.foldl_append]
 rfl
theorem Zt1 (p : Pan) : extF (outP p false ++ outP p true) (outP p false ++ outP p true).length = Zin p := by
 unfold extF Zin xsP
 rw [List.take_length]
theorem Zt2 {vL vR : Value} (p : Pan) (w : World) (hL : SlE w vL p.2.2.1) (hR : SlE w vR p.2.2.2) (hok : Zas p) :
  Calls Tryz.prog 88 #[.agg #[sV p.1, .int .i64 p.2.1, vL, vR]] w (RV w (.agg #[.int .i64 (Zin p).1, .int .i64 (Zin p).2])) := by
 have hw0 : 0 ≤ p.2.1 ∧ p.2.1 ≤ 128 := ⟨by have := hok.wid.1; omega, hok.wid.2⟩
 have o1 := fun W (hb : Below w.heap.size w W) => Zcq p false W (hL.below hb) (hR.below hb) hok.left hok.right hw0
 have o2 := fun W (hb : Below w.heap.size w W) => Zcq p true W (hL.below hb) (hR.below hb) hok.left hok.right hw0
 have HE : Hid (Zin p = extF (outP p false ++ outP p true) (outP p false ++ outP p true).length) := (Zt1 p).symm
 have l1 : (outP p false).length ≤ 1024 := by have := Zaq p false (hok.side false); omega
 have l2 : (outP p true).length ≤ 1024 := by have := Zaq p true (hok.side true); omega
 obtain ⟨O1, hO1⟩ : ∃ O, outP p false = O := ⟨_, rfl⟩
 obtain ⟨O2, hO2⟩ : ∃ O, outP p true = O := ⟨_, rfl⟩
 rw [hO1] at o1 HE l1
 rw [hO2] at o2 HE l2
 obtain ⟨⟨E1, E2⟩, hE⟩ : ∃ E, Zin p = E := ⟨_, rfl⟩
 rw [hE] at HE ⊢
 simp only
 obtain ⟨AL, cL, rfl, _, _, _⟩ := hL
 obtain ⟨AR, cR, rfl, _, _, _⟩ := hR
 unfold sV at o1 o2 ⊢
 have hP := ((Blk.new w 86 #[.string ⟨p.1.toArray⟩, .int .i64 p.2.1, .slice AL p.2.2.1.length cL, .slice AR p.2.2.2.length cR]).alloc (.cells #[.int .i64 0, .int .i64 0] 119)).alloc (.cells #[.int .i64 999999999, .int .i64 (-999999999)] 119)
 have hZ := (Blk.new1 w (.cells #[.string ⟨p.1.toArray⟩, .int .i64 p.2.1, .slice AL p.2.2.1.length cL, .slice AR p.2.2.2.length cR] 86) 119 #[.int .i64 0, .int .i64 0]).alloc (.cells #[.int .i64 999999999, .int .i64 (-999999999)] 119)
 have hX := Blk.new2 w (.cells #[.string ⟨p.1.toArray⟩, .int .i64 p.2.1, .slice AL p.2.2.1.length cL, .slice AR p.2.2.2.length cR] 86) (.cells #[.int .i64 0, .int .i64 0] 119) 119 #[.int .i64 999999999, .int .i64 (-999999999)]
 have fhP := hP.facts
 clear hok hw0 hO1 hO2 hE
 go_enter Tryz.func88, Tryz.ntmps88
 go_upto_region 2 with fail
 obtain ⟨x1, hx1⟩ : ∃ X, ((w.alloc (.cells #[.string ⟨p.1.toArray⟩, .int .i64 p.2.1, .slice AL p.2.2.1.length cL, .slice AR p.2.2.2.length cR] 86)).alloc (.cells #[.int .i64 0, .int .i64 0] 119)).alloc (.cells #[.int .i64 999999999, .int .i64 (-999999999)] 119) = X := ⟨_, rfl⟩
 have hb1 : Below w.heap.size w x1 := by rw [← hx1]; exact Z04 (Z04 (Z04 Z03 _) _) _
 have hz1 : w.heap.size + 3 ≤ x1.heap.size := by rw [← hx1]; simp
 rw [hx1] at hP hZ hX ⊢
 clear hx1 fhP
 have fhP := hP.facts
 refine Z0z [0, 2] [(1, false)] [3, 4, 5] (by kernel_rfl) (by kernel_rfl) (fun d _ _ _ _ h => by cases d <;> exact h) ?_
 simp only [List.map_cons, List.map_nil, List.getD_cons_zero, List.getD_cons_succ]
 repeat (go_big_quiet_step (fail))
 refine wpQuiet_nil ?_
 refine Z11 rfl (fun K hK => ?_)
 go_simp
 refine (o1 _ (by (repeat first|exact J0|assumption|(apply J1;assumption)|apply J2|apply J3|apply J4))).mono ?_
 rintro e w2 ⟨v2, rfl, hO2, hb2⟩
 refine hK _ _ (by (repeat first|exact J0|assumption|(apply J1;assumption)|apply J2|apply J3|apply J4)) ?_
 clear hK K
 have hP_w2 := hP.below (show Below _ _ w2 by (repeat first|exact J0|assumption|(apply J1;assumption)|apply J2|apply J3|apply J4))
 have fhP_w2 := hP_w2.facts
 obtain ⟨A2, c2, rfl⟩ := hO2.shape
 refine Z10 ?_
 go_wp2_with (first | (go_at_call 138; refine (o2 _ (by (repeat first|exact J0|assumption|(apply J1;assumption)|apply J2|apply J3|apply J4))).mono ?_; rintro e w3 ⟨v3, rfl, hO3, hb3⟩; have hO23 := hO2.below hb3; have hz13 := (show Below x1.heap.size x1 w3 by (repeat first|exact J0|assumption|(apply J1;assumption)|apply J2|apply J3|apply J4)).size) | (at_builtin; refine Z3y rfl Z3w Z21 Z40 _ _ rfl x1.heap.size _ _ O1 O2 rfl rfl hO23 (hO3.rd Z21) (by simp [maxLen]; omega) (by omega) hz13 ?_; intro v4 w4 hO4 hgr4))
 obtain ⟨A4, c4, rfl, _, _, hr4⟩ := hO4.rd Z21
 have hb34 : Below x1.heap.size x1 w4 := Z09 hgr4 (show Below x1.heap.size x1 w3 by (repeat first|exact J0|assumption|(apply J1;assumption)|apply J2|apply J3|apply J4)) (fun j e => by have h1 := (hO23.lt j e).1; simp at h1; exact h1)
 have hbw4 : Below w.heap.size w w4 := Z08 hb34 hb1
 have hZ4 := hZ.below hb34
 have hX4 := hX.below hb34
 obtain ⟨L0, hL0⟩ : ∃ L, O1 ++ O2 = L := ⟨_, rfl⟩
 have hll : L0.length ≤ 2048 := by rw [← hL0]; simp; omega
 have hlo : ∀ b off, A4 = some ⟨b, off, none⟩ → w.heap.size + 1 + 1 ≠ b := fun b off e => by
  subst e; have h1 := (hO4.lt b rfl).1
  omega
 rw [hL0] at hr4 HE ⊢
 clear hL0 hO4 hgr4 hO23 hO2 hO3 hb2 hb3 o1 o2 hP fhP hP_w2 fhP_w2 hZ hX hb1 hb34
 go_wp2
 go_loopw [5] (fun i wr => ∃ k : Nat, k ≤ L0.length ∧ i = .int .i64 k ∧ Blk wr (w.heap.size + 1 + 1) 119 #[.int .i64 (extF L0 k).1, .int .i64 (extF L0 k).2] ∧ Chg [w.heap.size + 1 + 1] w4 wr) (fun i _ => L0.length - (intOf i).toNat)
 case atStart => exact ⟨0, Nat.zero_le _, rfl, hX4, Chg.refl⟩
 case round =>
  obtain ⟨k, hk, rfl, hX, hc⟩ := hrel; obtain ⟨wo, rfl⟩ : ∃ x, x = wr := ⟨_, rfl⟩
  by_cases hlt' : k < L0.length
  ·obtain ⟨b, off, rfl, hb, e0, e1⟩ := (hr4.chgN hc (fun b off e => by have := hlo b off e; simp; exact fun h => this h.symm)).knot hlt'
   have HS := Lib.hid (Zt0 hlt')
   obtain ⟨⟨X, Y⟩, hX0⟩ : ∃ z, L0[k] = z := ⟨_, rfl⟩
   rw [hX0] at e0 e1 HS; simp only at e0 e1 HS
   obtain ⟨⟨m, M⟩, hmM⟩ : ∃ z, extF L0 k = z := ⟨_, rfl⟩
   rw [hmM] at hX HS; have HS2 : Hid (extF L0 (k + 1) = (min m X, max M X)) := HS.out
   simp only at hX
   have fX := hX.facts
   clear hX0 hmM HS; go_upto_region 6 with fail; refine Z0z [0, 1, 2, 3, 4, 5, 6, 7, 8, 9, 10, 11, 12, 13, 14, 15, 16] [] [17] (by kernel_rfl) (by kernel_rfl) (fun d _ _ _ _ h => by cases d <;> exact h) ?_
   simp only [List.map_cons, List.map_nil, List.getD_cons_zero, List.getD_cons_succ]; repeat (go_big_quiet_step (fail))
   refine wpQuiet_nil ?_; refine Z10 ?_; have hXd := hX.drew
   go_wp2_with (refine Z4n hXd rfl _ _ _ rfl rfl rfl (by rfl) (by kernel_rfl) (by kernel_rfl) ?_; intro w7 hX7 hc7)
   have hc2 : Chg [w.heap.size + 1 + 1] w4 w7 := hc.drew.trans hc7
   go_roundw; case rel => exact ⟨k + 1, by omega, by go_num, by rw [HS2.out]; exact hX7, hc2⟩
   case measure => simp [intOf]; omega
  ·obtain rfl : k = L0.length := by omega
   rw [← HE.out] at hX; simp only at hX
   have hZ5 := hZ4.chg hc (by simp)
   have fX := hX.facts
   go_wp2_with (refine Z4n hZ5 rfl _ _ _ rfl rfl rfl (by rfl) (by kernel_rfl) (by kernel_rfl) ?_; intro w6 hZ6 hc6; have f6 := hZ6.facts)
   have hb6 : Below w.heap.size w w6 := Z9f (Z9f hbw4 hc (by omega)) hc6 (by omega)
   refine bodyPost_ret (v := .agg #[.int .i64 E1, .int .i64 E2]) (by simp [results, Tryz.results88, go_sem, f6]) rfl ?_
   exact ⟨rfl, hb6⟩
theorem Zt3 {g : Int} (h : g % 2 = 0) : g.tmod 2 = 0 := by
 have := Int.dvd_of_emod_eq_zero h
 exact Int.tmod_eq_zero_of_dvd this
theorem Zt4 {g : Int} (h : ¬ g % 2 = 0) : ¬ g.tmod 2 = 0 := fun e => h (Int.emod_eq_zero_of_dvd (Int.dvd_of_tmod_eq_zero e))
end Go.Proofs.YtpcgeihemkhkjaaGreatDoor
namespace Go.Proofs.YtpcgeihemkhkjaaGreatDoor
open Go.RowKit Go.ChangeMaps
set_option maxHeartbeats 4000000
set_option maxRecDepth 100000
open Go.Shelf
def Zt5 : List (String × DataW Unit) := [("math/bits.deBruijn32tab", Rows.laid_math_bits_deBruijn32tab), ("math/bits.deBruijn64tab", Rows.laid_math_bits_deBruijn64tab), ("internal/strconv.uint64pow10", Rows.laid_internal_strconv_uint64pow10), ("unicode/utf8.acceptRanges", Rows.laid_unicode_utf8_acceptRanges), ("strconv.ErrRange", Rows.laid_strconv_ErrRange), ("strconv.ErrSyntax", Rows.laid_strconv_ErrSyntax), ("codend/bale.directions", Rows.laid_codend_bale_directions), ("unicode/utf8.first", Rows.laid_unicode_utf8_first)]
theorem Zt6 : "*" ++ "errors.errorString" = "*errors.errorString" := by decide
theorem Zt7 (u : TypeId) (h : Tryz.prog.typeName? 3 u = some "*errors.errorString") : u = 335 :=
 typeName_ptr_named (nm := "errors.errorString") (by rw [Zt6]; kernel_rfl) (by kernel_rfl) (by decide) u (by rw [Zt6]; exact h)
theorem Zt8 {W : World} (h0 : laidMetH Tryz.prog Zt5 W) (hsh : W.ShapedOpen Tryz.prog) : Lay W := by
 have h : laidMet Tryz.prog Zt5 W := by
  rw [MakeChecks.laidMetH_plain _ _ _ (by kernel_rfl)] at h0
  exact h0
 unfold Zt5 at h
 refine ⟨?_, ?_, ?_, ?_⟩
 ·exact Lib.tabIs_of_head (g := 2) (t := 317) (e := 294) (n := 20) (by kernel_rfl) (by kernel_rfl) Tryz.underlying317 Tryz.underlying294 (by kernel_rfl) (by kernel_rfl) h.tail.tail
 ·exact cell_of_shapedOpen_int (t := 3) (zero := #[.int .i64 0]) hsh (of_decide_eq_true (by kernel_rfl)) (by kernel_rfl) rfl (by kernel_rfl) (by kernel_rfl) Tryz.underlying3
 ·obtain ⟨a0, s0, hv0, -, -, -⟩ := laid_sentinel h.tail.tail.tail.tail.tail (g := 3) (by kernel_rfl) (ti := 249) (by kernel_rfl) Tryz.underlying249 Zt7 Tryz.underlying335 Tryz.underlying337 rfl rfl Tryz.underlying9 (by kernel_rfl) (by kernel_rfl)
  exact ⟨_, by have h0 := World.var?_cell (show Tryz.prog.globalNamed "strconv.ErrSyntax" = some 3 by kernel_rfl) hv0 0; simpa using h0, .inr ⟨_, _, rfl⟩⟩
 ·obtain ⟨a0, s0, hv0, -, -, -⟩ := laid_sentinel h.tail.tail.tail.tail (g := 4) (by kernel_rfl) (ti := 249) (by kernel_rfl) Tryz.underlying249 Zt7 Tryz.underlying335 Tryz.underlying337 rfl rfl Tryz.underlying9 (by kernel_rfl) (by kernel_rfl)
  exact ⟨_, by have h0 := World.var?_cell (show Tryz.prog.globalNamed "strconv.ErrRange" = some 4 by kernel_rfl) hv0 0; simpa using h0, .inr ⟨_, _, rfl⟩⟩
theorem returnsInHanded_laid {H : Type} {enc : TypeId × Value → H} {a : Assume} {C : Checked} {os : Os} {f : FuncId} {fn : Func} {s : ChangeSpec} {conds : List PathCond} {apart fresh handsOn again : Bool} {X : World → Array Value → Prop}
  (hX : ∀ (w w' : World) (args : Array Value), w.heap = w'.heap → X w args → X w' args)
  (own : ownKnob C.prog.godebug = none) (started : os.Started) (noInit : C.prog.inits.idxOf? f = none) (hfn : C.prog.funcs[f]? = some fn)
  (witness : ∃ (w : World) (tape : Tape) (i : Input), w.os = os ∧ (w.forCall tape i).Shaped C.prog ∧ i.vars = [] ∧ Input.okWide C.prog (w.forCall tape i) .any w.heap.size f i ∧
   ((s.pre enc C.prog fn conds apart (w.forCall tape i).memory i.args ∧ X (w.forCall tape i).memory i.args) ∧ sizedMet enc C.prog fn (OpenSpec.ofChange s) apart (w.forCall tape i).memory i.args) ∧ a.holds C.prog (lone (Frame.enter C.prog f i.args .normal) [] (w.forCall tape i)))
  (contract : ∀ (W : World) (base : Nat) (args : Array Value) (ds gs : List (DataW H)) (before : List MemPlace),
   (∀ (j : Nat) t v, fn.params[j]? = some t → args[j]? = some v → Value.okWide C.prog W .any base t v) →
   DataW.Whole enc C.prog fn.params.toList s.vars apart W args.toList ds gs before →
   conds.all (PathCond.test C.prog ⟨fn.params.toList, ds, s.plain.varTypes C.prog, gs⟩) = true →
   X W args → W.ShapedOpen C.prog →
   Calls C.prog f args W fun e W' => ∃ v, e = .returned v ∧ s.post enc C.prog fn apart fresh handsOn again W args v W') :
  ReturnsInHanded a C os f .any (fun w args => (s.pre enc C.prog fn conds apart w args ∧ X w args) ∧ sizedMet enc C.prog fn (OpenSpec.ofChange s) apart w args) (s.post enc C.prog fn apart fresh handsOn again) := by
 refine returnsInHanded_of_calls own started noInit witness ?_
 intro w tape i _ hsh _ hok hpre hholds
 obtain ⟨_, _, _, fn', hfn', _, _, _, _, hval⟩ := hok
 have e : fn' = fn := Option.some.inj (hfn'.symm.trans hfn)
 subst e
 obtain ⟨⟨⟨ds, gs, before, hw, hc⟩, hx⟩, _⟩ := hpre
 have hw' := DataW.Whole.of_heap (w' := w.forCall tape i) (by rfl) hw
 refine (contract (w.forCall tape i) w.heap.size i.args ds gs before hval hw' hc (hX _ _ _ (by rfl) hx) hsh).mono fun e W' ⟨v, he, hp⟩ => ?_
 subst he
 exact ChangeSpec.post_blind hp
theorem laidN_met (os : Os) (args : Array Value) : laidMetH Tryz.prog Zt5 ((World.laidAll Tryz.prog os Zt5).forCall (fun _ _ => 0) ⟨#[], args, []⟩).memory := by
 rw [MakeChecks.laidMetH_plain _ _ _ (by kernel_rfl)]
 exact laidMet_laidAll _ (by kernel_rfl) (by kernel_rfl)
end Go.Proofs.YtpcgeihemkhkjaaGreatDoor
namespace Go.Proofs.YtpcgeihemkhkjaaGreatDoor
open Go.RowKit Go.ChangeMaps
set_option maxHeartbeats 4000000
set_option maxRecDepth 100000
open Go.ChangeShapes Go.WideShapes Go.ChangeAt Go.Deep Go.Joins
theorem lawOwn : ownKnob Tryz.prog.godebug = none := by kernel_rfl
theorem lawLaid : laidOutB Tryz.prog = true := by kernel_rfl
section
variable {H : Type} {enc' : TypeId × Value → H} {P : Program} {w : World} {base : Nat} {spare : Nat → Bool} {held : Bool}
theorem Zt9 {α : Type} [Inhabited α] {en : α → List Value} {sz : Nat} {t e : TypeId} {fuel : Nat} {c : Value} {x : DataW H × List MemPlace} (ht : P.underlying t = some (.slice e)) (hC : P.cellsOf e = sz) (hpos : 0 < sz)
  (hel : ∀ fuel cs y, DataW.trod enc' P w base spare held fuel e cs = some y → ∃ a : α, cs = en a) (h : DataW.trod enc' P w base spare held fuel t [c] = some x) : ∃ l : List α, Sl en sz w c l := by
 rcases open_slice ht h with ⟨hcs, _⟩ | ⟨a, len, cap, m, n, D, Pl, hcs, hb, hl, hm, hmm, _, hx⟩
 ·obtain rfl : c = .slice none 0 0 := by simpa using hcs
  exact ⟨[], Sl.nil_⟩
 ·obtain rfl : c = .slice (some a) len cap := by simpa using hcs
  have hlm : len ≤ m := by rw [hmm]; split <;> omega
  have each : ∀ i, i < len → ∃ z : α, (en z).length = sz ∧ ∀ j, j < sz → w.cell? (a.add (i * sz + j)) = (en z)[j]? := fun i hi => by
   obtain ⟨cs', h1, h2⟩ := hx i (by omega)
   rw [hC] at h1; obtain ⟨z, rfl⟩ := hel _ _ _ h2
   obtain ⟨_, hlen, hcell⟩ := World.cells?_some h1
   exact ⟨z, hlen, fun j hj => by rw [← add_add]; exact hcell j hj⟩
  obtain ⟨f, hf⟩ := choose_lt each
  refine ⟨(List.range len).map f, some a, cap, by simp, by simpa using hl, hm, fun i x hx => ?_⟩
  rw [List.getElem?_map] at hx
  have hi : i < len := by
   by_cases hi : i < len
   ·exact hi
   ·rw [List.getElem?_eq_none (by simpa using hi)] at hx; cases hx
  rw [List.getElem?_range hi] at hx
  obtain rfl : f i = x := by simpa using hx
  obtain ⟨hfl, hfc⟩ := hf i hi
  have hc0 := hfc 0 hpos
  have hl0 : 0 < (en (f i)).length := by omega
  rw [List.getElem?_eq_getElem hl0] at hc0
  obtain ⟨b, off, spot⟩ := a
  have hspot : spot = none := by
   have := World.cell?_spot hc0
   unfold Addr.add at this; split at this
   ·exact this
   ·rename_i hne
    have h0 := hf 0 (by omega)
    have := h0.2 0 hpos
    rw [List.getElem?_eq_getElem (by omega)] at this
    have := World.cell?_spot this
    simpa [Addr.add] using this
  subst hspot
  have hadd : ∀ n, (⟨b, off, none⟩ : Addr).add n = ⟨b, off + n, none⟩ := fun n => by
   unfold Addr.add; split
   ·rename_i h0; rw [h0]; rfl
   ·rfl
  refine ⟨b, off, rfl, ?_, fun j u hu => ?_⟩
  ·rw [hadd] at hc0
   unfold World.cell? at hc0
   by_cases hbl : b < w.heap.size
   ·exact hbl
   ·simp [Array.getElem?_eq_none (show w.heap.size ≤ b by omega)] at hc0
  ·have hj : j < sz := by rw [← hfl]; exact (List.getElem?_eq_some_iff.1 hu).1
   have := hfc j hj
   rw [hadd, hu, ← Nat.add_assoc] at this; exact this
end
section
variable {H : Type} {enc' : TypeId × Value → H} {w : World} {base : Nat} {spare : Nat → Bool} {held : Bool}
theorem Zta {fuel : Nat} {cs : List Value} {y : DataW H × List MemPlace} (h : DataW.trod enc' Tryz.prog w base spare held fuel 132 cs = some y) : ∃ a : Edg, cs = ec a := by
 obtain ⟨y0, y1, y2, n, _, hl, h0, h1, h2⟩ := trod_struct3 Tryz.underlying132 h
 obtain ⟨a, e0, _⟩ := DataW.trod_string Tryz.underlying9 h0
 obtain ⟨b, e1, _⟩ := DataW.trod_int Tryz.underlying3 h1
 obtain ⟨c, e2, _⟩ := DataW.trod_bool Tryz.underlying4 h2
 have hC : Tryz.prog.cellsOf 132 = 3 := by kernel_rfl
 have hI : Tryz.prog.cellsOf 3 = 1 := by kernel_rfl
 have hS : Tryz.prog.cellsOf 9 = 1 := by kernel_rfl
 have hB : Tryz.prog.cellsOf 4 = 1 := by kernel_rfl
 rw [hC] at hl
 simp only [hI, hS, hB] at e0 e1 e2
 obtain ⟨⟨L⟩⟩ := a
 match cs, hl with
 | [p, q, r], _ =>
  simp at e0 e1 e2
  subst e0 e1 e2; exact ⟨(L, b, c), rfl⟩
theorem Ztb {fuel : Nat} {c : Value} {x : DataW H × List MemPlace} (h : DataW.trod enc' Tryz.prog w base spare held fuel 84 [c] = some x) : ∃ l : List Edg, SlE w c l :=
 Zt9 Tryz.underlying84 (by kernel_rfl) (by decide) (fun _ _ _ h => Zta h) h
end
theorem law_main : Tryz.pinned.checked.prog.mainIs = some (true, "3da20f59901f6bc20089874a21517bae1878a1d2eefccfcf189cc32b77eb0fd1".toList) := by kernel_rfl
theorem law_looks : true = Tryz.pinned.checked.prog.looks [] := by kernel_rfl
section
variable {H : Type} {enc' : TypeId × Value → H} {P : Program} {w : World} {base : Nat} {spare : Nat → Bool} {held : Bool}
theorem Ztc {α : Type} [Inhabited α] {en : α → List Value} {sz : Nat} {t e : TypeId} {fuel : Nat} {c : Value} {x : DataW H × List MemPlace} (Q : α → Prop) (ht : P.underlying t = some (.slice e)) (hC : P.cellsOf e = sz) (hpos : 0 < sz)
  (hel : ∀ fuel cs y, DataW.trod enc' P w base spare held fuel e cs = some y → ∃ a : α, cs = en a ∧ Q a) (h : DataW.trod enc' P w base spare held fuel t [c] = some x) : ∃ l : List α, Sl en sz w c l ∧ ∀ a ∈ l, Q a := by
 rcases open_slice ht h with ⟨hcs, _⟩ | ⟨a, len, cap, m, n, D, Pl, hcs, hb, hl, hm, hmm, _, hx⟩
 ·obtain rfl : c = .slice none 0 0 := by simpa using hcs
  exact ⟨[], Sl.nil_, by simp⟩
 ·obtain rfl : c = .slice (some a) len cap := by simpa using hcs
  have hlm : len ≤ m := by rw [hmm]; split <;> omega
  have each : ∀ i, i < len → ∃ z : α, ((en z).length = sz ∧ Q z) ∧ ∀ j, j < sz → w.cell? (a.add (i * sz + j)) = (en z)[j]? := fun i hi => by
   obtain ⟨cs', h1, h2⟩ := hx i (by omega)
   rw [hC] at h1; obtain ⟨z, rfl, hq⟩ := hel _ _ _ h2
   obtain ⟨_, hlen, hcell⟩ := World.cells?_some h1
   exact ⟨z, ⟨hlen, hq⟩, fun j hj => by rw [← add_add]; exact hcell j hj⟩
  obtain ⟨f, hf⟩ := choose_lt each
  refine ⟨(List.range len).map f, ⟨some a, cap, by simp, by simpa using hl, hm, fun i x hx => ?_⟩, fun z hz => ?_⟩
  ·rw [List.getElem?_map] at hx
   have hi : i < len := by
    by_cases hi : i < len
    ·exact hi
    ·rw [List.getElem?_eq_none (by simpa using hi)] at hx; cases hx
   rw [List.getElem?_range hi] at hx
   obtain rfl : f i = x := by simpa using hx
   obtain ⟨⟨hfl, _⟩, hfc⟩ := hf i hi
   have hc0 := hfc 0 hpos
   have hl0 : 0 < (en (f i)).length := by omega
   rw [List.getElem?_eq_getElem hl0] at hc0
   obtain ⟨b, off, spot⟩ := a
   have hspot : spot = none := by
    have := World.cell?_spot hc0
    unfold Addr.add at this; split at this
    ·exact this
    ·rename_i hne
     have h0 := hf 0 (by omega)
     have := h0.2 0 hpos
     rw [List.getElem?_eq_getElem (by omega)] at this
     have := World.cell?_spot this
     simpa [Addr.add] using this
   subst hspot
   have hadd : ∀ n, (⟨b, off, none⟩ : Addr).add n = ⟨b, off + n, none⟩ := fun n => by
    unfold Addr.add; split
    ·rename_i h0; rw [h0]; rfl
    ·rfl
   refine ⟨b, off, rfl, ?_, fun j u hu => ?_⟩
   ·rw [hadd] at hc0
    unfold World.cell? at hc0
    by_cases hbl : b < w.heap.size
    ·exact hbl
    ·simp [Array.getElem?_eq_none (show w.heap.size ≤ b by omega)] at hc0
   ·have hj : j < sz := by rw [← hfl]; exact (List.getElem?_eq_some_iff.1 hu).1
    have := hfc j hj
    rw [hadd, hu, ← Nat.add_assoc] at this; exact this
  ·obtain ⟨i, hi, rfl⟩ := List.mem_map.1 hz
   exact (hf i (List.mem_range.1 hi)).1.2
theorem Ztd {t : TypeId} {f0 f1 f2 f3 : Field} {fuel : Nat} {cs : List Value} {x : DataW H × List MemPlace} (ht : P.underlying t = some (.struct #[f0, f1, f2, f3])) (h : DataW.trod enc' P w base spare held fuel t cs = some x) :
  ∃ y0 y1 y2 y3 n, cs.length = P.cellsOf t ∧ DataW.trod enc' P w base spare held n f0.type ((cs.drop f0.offset).take (P.cellsOf f0.type)) = some y0 ∧
   DataW.trod enc' P w base spare held n f1.type ((cs.drop f1.offset).take (P.cellsOf f1.type)) = some y1 ∧ DataW.trod enc' P w base spare held n f2.type ((cs.drop f2.offset).take (P.cellsOf f2.type)) = some y2 ∧
   DataW.trod enc' P w base spare held n f3.type ((cs.drop f3.offset).take (P.cellsOf f3.type)) = some y3 := by
 obtain ⟨xs, n, _, rfl, hl, hlen, hf⟩ := DataW.trod_struct ht h
 match xs, hlen with
 | [y0, y1, y2, y3], _ => exact ⟨y0, y1, y2, y3, n, hl, by simpa using hf 0 f0 rfl, by simpa using hf 1 f1 rfl, by simpa using hf 2 f2 rfl, by simpa using hf 3 f3 rfl⟩
end
instance : Inhabited PnV := ⟨([], 0, (none, 0, 0), (none, 0, 0))⟩
theorem Zte {α : Type} {en : α → List Value} {sz : Nat} {w : World} {c : Value} {l : List α} (h : Sl en sz w c l) : ∃ x : SlV, c = slV x := by
 obtain ⟨A, k, rfl, _⟩ := h
 exact ⟨(A, _, k), rfl⟩
section
variable {H : Type} {enc' : TypeId × Value → H} {w : World} {base : Nat} {spare : Nat → Bool} {held : Bool}
theorem Ztf {fuel : Nat} {cs : List Value} {y : DataW H × List MemPlace} (h : DataW.trod enc' Tryz.prog w base spare held fuel 86 cs = some y) : ∃ a : PnV, cs = pnc a ∧ ∃ p : Pan, PnAt w a p ∧ p.1.length ≤ maxLen := by
 obtain ⟨y0, y1, y2, y3, n, hl, h0, h1, h2, h3⟩ := Ztd Tryz.underlying86 h
 obtain ⟨s, e0, _, hz⟩ := DataW.trod_string Tryz.underlying9 h0
 obtain ⟨i, e1, _⟩ := DataW.trod_int Tryz.underlying3 h1
 have hC : Tryz.prog.cellsOf 86 = 4 := by kernel_rfl
 have hI : Tryz.prog.cellsOf 3 = 1 := by kernel_rfl
 have hS : Tryz.prog.cellsOf 9 = 1 := by kernel_rfl
 have hE : Tryz.prog.cellsOf 84 = 1 := by kernel_rfl
 rw [hC] at hl
 simp only [hI, hS] at e0 e1
 simp only [hE] at h2 h3
 obtain ⟨⟨L⟩⟩ := s
 match cs, hl with
 | [p, q, r, u], _ =>
  simp at e0 e1
  subst e0 e1; obtain ⟨l, hl⟩ := Ztb (c := r) h2
  obtain ⟨m, hm⟩ := Ztb (c := u) h3
  obtain ⟨v1, rfl⟩ := Zte hl
  obtain ⟨v2, rfl⟩ := Zte hm
  exact ⟨(L, i, v1, v2), rfl, (L, i, l, m), ⟨rfl, rfl, hl, hm⟩, hz⟩
theorem Ztg {w : World} : ∀ {xs : List PnV}, (∀ a ∈ xs, ∃ p : Pan, PnAt w a p ∧ p.1.length ≤ maxLen) → ∃ l : List Pan, Zgi w xs l ∧ ∀ p ∈ l, p.1.length ≤ maxLen
 | [], _ => ⟨[], trivial, by simp⟩
 | x :: r, h => by
  obtain ⟨p, hp, hz⟩ := h x (List.mem_cons_self ..)
  obtain ⟨l, hl, hm⟩ := Ztg fun a ha => h a (List.mem_cons_of_mem _ ha)
  refine ⟨p :: l, ⟨hp, hl⟩, fun q hq => ?_⟩
  rcases List.mem_cons.1 hq with rfl | hq
  ·exact hz
  ·exact hm q hq
theorem rpanels_open {r : Reach} {b0 : Nat} {v : Value} {d : DataW H} {p : List MemPlace} (hv : Value.okWide Tryz.prog w r b0 22 v) (h : DataW.Trod enc' Tryz.prog w base spare held 22 v d p) :
  ∃ l : List Pan, SlP w v l ∧ ∀ q ∈ l, q.1.length ≤ maxLen := by
 obtain ⟨a, n, c, rfl⟩ := okWide_slice Tryz.underlying22 hv
 obtain ⟨m, hm⟩ := h
 obtain ⟨xs, h1, h2⟩ := Ztc (en := pnc) (sz := 4) (fun a => ∃ p : Pan, PnAt w a p ∧ p.1.length ≤ maxLen) Tryz.underlying22 (by kernel_rfl) (by decide) (fun _ _ _ h => Ztf h) (c := .slice a n c) (by simpa [Value.cells] using hm)
 obtain ⟨l, h3, h4⟩ := Ztg h2
 exact ⟨l, ⟨xs, h1, h3⟩, h4⟩
end
section
variable {H : Type} {enc' : TypeId × Value → H} {w : World} {base : Nat} {spare : Nat → Bool} {held : Bool}
instance : Inhabited Bal := ⟨([], 0, 0)⟩
instance : Inhabited Plc := ⟨(0, false, 0)⟩
theorem rbal_open {r : Reach} {b0 : Nat} {v : Value} {d : DataW H} {p : List MemPlace} (hv : Value.okWide Tryz.prog w r b0 48 v) (h : DataW.Trod enc' Tryz.prog w base spare held 48 v d p) :
  ∃ x : Bal, v = .agg #[sV x.1, .int .i64 x.2.1, .int .i64 x.2.2] ∧ x.1.length ≤ maxLen := by
 obtain ⟨a, b, c, y0, y1, y2, n, rfl, _, _, h0, h1, h2⟩ := open_agg3 Tryz.underlying48 (by kernel_rfl) (by kernel_rfl) hv h
 obtain ⟨s, e0, _, hz⟩ := DataW.trod_string Tryz.underlying9 h0
 obtain ⟨n, e1, _⟩ := DataW.trod_int Tryz.underlying3 h1
 obtain ⟨q, e2, _⟩ := DataW.trod_int Tryz.underlying3 h2
 obtain ⟨⟨L⟩⟩ := s
 simp at e0 e1 e2
 subst e0 e1 e2
 exact ⟨(L, n, q), rfl, hz⟩
theorem Zth {fuel : Nat} {cs : List Value} {y : DataW H × List MemPlace} (h : DataW.trod enc' Tryz.prog w base spare held fuel 101 cs = some y) : ∃ a : Plc, cs = plc a := by
 obtain ⟨y0, y1, y2, n, _, hl, h0, h1, h2⟩ := trod_struct3 Tryz.underlying101 h
 obtain ⟨a, e0, _⟩ := DataW.trod_int Tryz.underlying3 h0
 obtain ⟨b, e1, _⟩ := DataW.trod_bool Tryz.underlying4 h1
 obtain ⟨c, e2, _⟩ := DataW.trod_int Tryz.underlying3 h2
 have hC : Tryz.prog.cellsOf 101 = 3 := by kernel_rfl
 have hI : Tryz.prog.cellsOf 3 = 1 := by kernel_rfl
 have hB : Tryz.prog.cellsOf 4 = 1 := by kernel_rfl
 rw [hC] at hl
 simp only [hI, hB] at e0 e1 e2
 match cs, hl with
 | [p, q, r], _ =>
  simp at e0 e1 e2
  subst e0 e1 e2; exact ⟨(a, b, c), rfl⟩
theorem rplaces_open {r : Reach} {b0 : Nat} {v : Value} {d : DataW H} {p : List MemPlace} (hv : Value.okWide Tryz.prog w r b0 45 v) (h : DataW.Trod enc' Tryz.prog w base spare held 45 v d p) :
  ∃ l : List Plc, Sl plc 3 w v l := by
 obtain ⟨a, n, c, rfl⟩ := okWide_slice Tryz.underlying45 hv
 obtain ⟨m, hm⟩ := h
 exact Zt9 (en := plc) (sz := 3) Tryz.underlying45 (by kernel_rfl) (by decide) (fun _ _ _ h => Zth h) (c := .slice a n c) (by simpa [Value.cells] using hm)
end
end Go.Proofs.YtpcgeihemkhkjaaGreatDoor
namespace Go.Proofs.YtpcgeihemkhkjaaGreatDoor
open Go.RowKit Go.ChangeMaps
set_option maxHeartbeats 4000000
set_option maxRecDepth 100000
open Go.Shelf
theorem Zti {P : Program} {W : World} {name : String} {s0 s1 : List UInt8} {rest : List (String × DataW Unit)} {g : Nat} {t e : TypeId}
  (hg : P.globalNamed name = some g) (hty : (P.globals[g]?).map (·.type) = some t) (ht : P.underlying t = some (.array 2 e)) (he : P.underlying e = some .string) (hce : P.cellsOf e = 1) (hct : P.cellsOf t = 2)
  (h : laidMet P ((name, .agg [.lit (.string s0), .lit (.string s1)]) :: rest) W) : W.cell? ⟨g, 0, none⟩ = some (.string ⟨s0.toArray⟩) ∧ W.cell? ⟨g, 1, none⟩ = some (.string ⟨s1.toArray⟩) := by
 obtain ⟨ps, ⟨g', t', cs, fuel, p, q, hg', ht', hvar, hd, _, _⟩, _⟩ := h
 obtain rfl := Option.some.inj (hg.symm.trans hg')
 obtain rfl := Option.some.inj (hty.symm.trans ht')
 obtain ⟨xs, m, _, hy, hl, hxl, hel⟩ := DataW.trod_array ht hd
 match xs, hxl with
 | [x, y], _ =>
  have h0 := hel 0 (by omega)
  have h1 := hel 1 (by omega)
  simp only [hce, hct, Nat.zero_mul, Nat.one_mul, List.drop_zero, List.getElem?_cons_zero, List.getElem?_cons_succ] at h0 h1 hl; obtain ⟨a, e0, hx, _⟩ := DataW.trod_string he h0
  obtain ⟨b, e1, hz, _⟩ := DataW.trod_string he h1
  subst hx hz; simp only [List.map_cons, List.map_nil, Prod.mk.injEq, DataW.agg.injEq, List.cons.injEq, DataW.lit.injEq, Lit.string.injEq, and_true] at hy; obtain ⟨⟨rfl, rfl⟩, _⟩ := hy; obtain ⟨cs⟩ := cs; match cs, hl with
  | [u, v], _ =>
   simp only [List.take_succ_cons, List.take_zero, List.drop_succ_cons, List.drop_zero, List.cons.injEq, and_true] at e0 e1; subst e0 e1; have c := World.var?_cell hg hvar
   exact ⟨by have := c 0; simpa using this, by have := c 1; simpa using this⟩
theorem layB_of {W : World} (h0 : laidMetH Tryz.prog Zt5 W) (hsh : W.ShapedOpen Tryz.prog) : LayB W := by
 have hL := Zt8 h0 hsh
 have h : laidMet Tryz.prog Zt5 W := by
  rw [MakeChecks.laidMetH_plain _ _ _ (by kernel_rfl)] at h0
  exact h0
 unfold Zt5 at h
 have := Zti (g := 0) (t := 181) (e := 9) (by kernel_rfl) (by kernel_rfl) Tryz.underlying181 Tryz.underlying9 (by kernel_rfl) (by kernel_rfl) h.tail.tail.tail.tail.tail.tail
 exact ⟨hL, this.1, this.2⟩
end Go.Proofs.YtpcgeihemkhkjaaGreatDoor
