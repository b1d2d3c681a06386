/- What a row lists, as the walk wants it. Conditions: the row's own. -/
import Derived.Test.YtkkefahobjlagaaGreatDoorQ10
import Derived.Test.YtkkefahobjlagaaGreatDoorRows
import Derived.LaidMore
import Derived.Stop.LaidErr
import Derived.Shelf.Vars
import Derived.Lib.LaidTab
import Derived.OpenShut
import Derived.ProofKit
import Derived.Lay
import Derived.SevenTiedAt
import Derived.Handed
import Derived.Test.YtkkefahobjlagaaGreatDoorQ06
import Derived.Test.YtkkefahobjlagaaGreatDoorQ12
import Derived.WalkKit
import Derived.ShutString
import Derived.ChangeOld
import Derived.Below
import Derived.Lib.SmallJoins
import Derived.Deep.Slices
import Derived.Deep.Strs
import Derived.ChangeMaps5
namespace Go.Proofs.YtkkefahobjlagaaGreatDoor
open Go.RowKit Go.ChangeMaps
set_option maxHeartbeats 4000000
set_option maxRecDepth 100000
open Go.Shelf
def laidN : List (String × DataW Unit) := [("math/bits.deBruijn32tab", Rows.laid_math_bits_deBruijn32tab), ("math/bits.deBruijn64tab", Rows.laid_math_bits_deBruijn64tab), ("internal/strconv.uint64pow10", Rows.laid_internal_strconv_uint64pow10), ("unicode/utf8.acceptRanges", Rows.laid_unicode_utf8_acceptRanges), ("strconv.ErrRange", Rows.laid_strconv_ErrRange), ("strconv.ErrSyntax", Rows.laid_strconv_ErrSyntax), ("unicode/utf8.first", Rows.laid_unicode_utf8_first)]
theorem star_es : "*" ++ "errors.errorString" = "*errors.errorString" := by decide
theorem row_es (u : TypeId) (h : Tryz.prog.typeName? 3 u = some "*errors.errorString") : u = 328 :=
 typeName_ptr_named (nm := "errors.errorString") (by rw [star_es]; kernel_rfl) (by kernel_rfl) (by decide) u (by rw [star_es]; exact h)
theorem lay_of {W : World} (h0 : laidMetH Tryz.prog laidN W) (hsh : W.ShapedOpen Tryz.prog) : Lay W := by
 have h : laidMet Tryz.prog laidN W := by
  rw [MakeChecks.laidMetH_plain _ _ _ (by kernel_rfl)] at h0
  exact h0
 unfold laidN at h
 refine ⟨?_, ?_, ?_, ?_⟩
 ·exact Lib.tabIs_of_head (g := 0) (t := 298) (e := 274) (n := 20) (by kernel_rfl) (by kernel_rfl) Tryz.underlying298 Tryz.underlying274 (by kernel_rfl) (by kernel_rfl) h.tail.tail
 ·exact cell_of_shapedOpen_int (t := 3) (zero := #[.int .i64 0]) hsh (of_decide_eq_true (by kernel_rfl)) (by kernel_rfl) rfl (by kernel_rfl) (by kernel_rfl) Tryz.underlying3
 ·obtain ⟨a0, s0, hv0, -, -, -⟩ := laid_sentinel h.tail.tail.tail.tail.tail (g := 6) (by kernel_rfl) (ti := 164) (by kernel_rfl) Tryz.underlying164 row_es Tryz.underlying328 Tryz.underlying330 rfl rfl Tryz.underlying9 (by kernel_rfl) (by kernel_rfl)
  exact ⟨_, by have h0 := World.var?_cell (show Tryz.prog.globalNamed "strconv.ErrSyntax" = some 6 by kernel_rfl) hv0 0; simpa using h0, .inr ⟨_, _, rfl⟩⟩
 ·obtain ⟨a0, s0, hv0, -, -, -⟩ := laid_sentinel h.tail.tail.tail.tail (g := 7) (by kernel_rfl) (ti := 164) (by kernel_rfl) Tryz.underlying164 row_es Tryz.underlying328 Tryz.underlying330 rfl rfl Tryz.underlying9 (by kernel_rfl) (by kernel_rfl)
  exact ⟨_, by have h0 := World.var?_cell (show Tryz.prog.globalNamed "strconv.ErrRange" = some 7 by kernel_rfl) hv0 0; simpa using h0, .inr ⟨_, _, rfl⟩⟩
theorem returnsInHanded_laid {H : Type} {enc : TypeId × Value → H} {a : Assume} {C : Checked} {os : Os} {f : FuncId} {fn : Func} {s : ChangeSpec} {conds : List PathCond} {apart fresh handsOn again : Bool} {X : World → Array Value → Prop}
  (hX : ∀ (w w' : World) (args : Array Value), w.heap = w'.heap → X w args → X w' args)
  (own : ownKnob C.prog.godebug = none) (started : os.Started) (noInit : C.prog.inits.idxOf? f = none) (hfn : C.prog.funcs[f]? = some fn)
  (witness : ∃ (w : World) (tape : Tape) (i : Input), w.os = os ∧ (w.forCall tape i).Shaped C.prog ∧ i.vars = [] ∧ Input.okWide C.prog (w.forCall tape i) .any w.heap.size f i ∧
   ((s.pre enc C.prog fn conds apart (w.forCall tape i).memory i.args ∧ X (w.forCall tape i).memory i.args) ∧ sizedMet enc C.prog fn (OpenSpec.ofChange s) apart (w.forCall tape i).memory i.args) ∧ a.holds C.prog (lone (Frame.enter C.prog f i.args .normal) [] (w.forCall tape i)))
  (contract : ∀ (W : World) (base : Nat) (args : Array Value) (ds gs : List (DataW H)) (before : List MemPlace),
   (∀ (j : Nat) t v, fn.params[j]? = some t → args[j]? = some v → Value.okWide C.prog W .any base t v) →
   DataW.Whole enc C.prog fn.params.toList s.vars apart W args.toList ds gs before →
   conds.all (PathCond.test C.prog ⟨fn.params.toList, ds, s.plain.varTypes C.prog, gs⟩) = true →
   X W args → W.ShapedOpen C.prog →
   Calls C.prog f args W fun e W' => ∃ v, e = .returned v ∧ s.post enc C.prog fn apart fresh handsOn again W args v W') :
  ReturnsInHanded a C os f .any (fun w args => (s.pre enc C.prog fn conds apart w args ∧ X w args) ∧ sizedMet enc C.prog fn (OpenSpec.ofChange s) apart w args) (s.post enc C.prog fn apart fresh handsOn again) := by
 refine returnsInHanded_of_calls own started noInit witness ?_
 intro w tape i _ hsh _ hok hpre hholds
 obtain ⟨_, _, _, fn', hfn', _, _, _, _, hval⟩ := hok
 have e : fn' = fn := Option.some.inj (hfn'.symm.trans hfn)
 subst e
 obtain ⟨⟨⟨ds, gs, before, hw, hc⟩, hx⟩, _⟩ := hpre
 have hw' := DataW.Whole.of_heap (w' := w.forCall tape i) (by rfl) hw
 refine (contract (w.forCall tape i) w.heap.size i.args ds gs before hval hw' hc (hX _ _ _ (by rfl) hx) hsh).mono fun e W' ⟨v, he, hp⟩ => ?_
 subst he
 exact ChangeSpec.post_blind hp
theorem laidN_met (os : Os) (args : Array Value) : laidMetH Tryz.prog laidN ((World.laidAll Tryz.prog os laidN).forCall (fun _ _ => 0) ⟨#[], args, []⟩).memory := by
 rw [MakeChecks.laidMetH_plain _ _ _ (by kernel_rfl)]
 exact laidMet_laidAll _ (by kernel_rfl) (by kernel_rfl)
end Go.Proofs.YtkkefahobjlagaaGreatDoor
namespace Go.Proofs.YtkkefahobjlagaaGreatDoor
open Go.RowKit Go.ChangeMaps
set_option maxHeartbeats 4000000
set_option maxRecDepth 100000
open Go.ChangeShapes Go.WideShapes Go.ChangeAt Go.Deep Go.Joins
theorem lawOwn : ownKnob Tryz.prog.godebug = none := by kernel_rfl
theorem lawLaid : laidOutB Tryz.prog = true := by kernel_rfl
section
variable {H : Type} {enc' : TypeId × Value → H} {P : Program} {w : World} {base : Nat} {spare : Nat → Bool} {held : Bool}
theorem sl_open {α : Type} [Inhabited α] {en : α → List Value} {sz : Nat} {t e : TypeId} {fuel : Nat} {c : Value} {x : DataW H × List MemPlace} (ht : P.underlying t = some (.slice e)) (hC : P.cellsOf e = sz) (hpos : 0 < sz)
  (hel : ∀ fuel cs y, DataW.trod enc' P w base spare held fuel e cs = some y → ∃ a : α, cs = en a) (h : DataW.trod enc' P w base spare held fuel t [c] = some x) : ∃ l : List α, Sl en sz w c l := by
 rcases open_slice ht h with ⟨hcs, _⟩ | ⟨a, len, cap, m, n, D, Pl, hcs, hb, hl, hm, hmm, _, hx⟩
 ·obtain rfl : c = .slice none 0 0 := by simpa using hcs
  exact ⟨[], Sl.nil_⟩
 ·obtain rfl : c = .slice (some a) len cap := by simpa using hcs
  have hlm : len ≤ m := by rw [hmm]; split <;> omega
  have each : ∀ i, i < len → ∃ z : α, (en z).length = sz ∧ ∀ j, j < sz → w.cell? (a.add (i * sz + j)) = (en z)[j]? := fun i hi => by
   obtain ⟨cs', h1, h2⟩ := hx i (by omega)
   rw [hC] at h1
   obtain ⟨z, rfl⟩ := hel _ _ _ h2
   obtain ⟨_, hlen, hcell⟩ := World.cells?_some h1
   exact ⟨z, hlen, fun j hj => by rw [← add_add]; exact hcell j hj⟩
  obtain ⟨f, hf⟩ := choose_lt each
  refine ⟨(List.range len).map f, some a, cap, by simp, by simpa using hl, hm, fun i x hx => ?_⟩
  rw [List.getElem?_map] at hx
  have hi : i < len := by
   by_cases hi : i < len
   ·exact hi
   ·rw [List.getElem?_eq_none (by simpa using hi)] at hx; cases hx
  rw [List.getElem?_range hi] at hx
  obtain rfl : f i = x := by simpa using hx
  obtain ⟨hfl, hfc⟩ := hf i hi
  have hc0 := hfc 0 hpos
  have hl0 : 0 < (en (f i)).length := by omega
  rw [List.getElem?_eq_getElem hl0] at hc0
  obtain ⟨b, off, spot⟩ := a
  have hspot : spot = none := by
   have := World.cell?_spot hc0
   unfold Addr.add at this
   split at this
   ·exact this
   ·rename_i hne
    have h0 := hf 0 (by omega)
    have := h0.2 0 hpos
    rw [List.getElem?_eq_getElem (by omega)] at this
    have := World.cell?_spot this
    simpa [Addr.add] using this
  subst hspot
  have hadd : ∀ n, (⟨b, off, none⟩ : Addr).add n = ⟨b, off + n, none⟩ := fun n => by
   unfold Addr.add
   split
   ·rename_i h0; rw [h0]; rfl
   ·rfl
  refine ⟨b, off, rfl, ?_, fun j u hu => ?_⟩
  ·rw [hadd] at hc0
   unfold World.cell? at hc0
   by_cases hbl : b < w.heap.size
   ·exact hbl
   ·simp [Array.getElem?_eq_none (show w.heap.size ≤ b by omega)] at hc0
  ·have hj : j < sz := by rw [← hfl]; exact (List.getElem?_eq_some_iff.1 hu).1
   have := hfc j hj
   rw [hadd, hu, ← Nat.add_assoc] at this
   exact this
end
section
variable {H : Type} {enc' : TypeId × Value → H} {w : World} {base : Nat} {spare : Nat → Bool} {held : Bool}
theorem redge_trod {fuel : Nat} {cs : List Value} {y : DataW H × List MemPlace} (h : DataW.trod enc' Tryz.prog w base spare held fuel 132 cs = some y) : ∃ a : Edg, cs = ec a := by
 obtain ⟨y0, y1, y2, n, _, hl, h0, h1, h2⟩ := trod_struct3 Tryz.underlying132 h
 obtain ⟨a, e0, _⟩ := DataW.trod_string Tryz.underlying9 h0
 obtain ⟨b, e1, _⟩ := DataW.trod_int Tryz.underlying3 h1
 obtain ⟨c, e2, _⟩ := DataW.trod_bool Tryz.underlying4 h2
 have hC : Tryz.prog.cellsOf 132 = 3 := by kernel_rfl
 have hI : Tryz.prog.cellsOf 3 = 1 := by kernel_rfl
 have hS : Tryz.prog.cellsOf 9 = 1 := by kernel_rfl
 have hB : Tryz.prog.cellsOf 4 = 1 := by kernel_rfl
 rw [hC] at hl
 simp only [hI, hS, hB] at e0 e1 e2
 obtain ⟨⟨L⟩⟩ := a
 match cs, hl with
 | [p, q, r], _ =>
  simp at e0 e1 e2
  subst e0 e1 e2
  exact ⟨(L, b, c), rfl⟩
theorem redges_open {fuel : Nat} {c : Value} {x : DataW H × List MemPlace} (h : DataW.trod enc' Tryz.prog w base spare held fuel 22 [c] = some x) : ∃ l : List Edg, SlE w c l :=
 sl_open Tryz.underlying22 (by kernel_rfl) (by decide) (fun _ _ _ h => redge_trod h) h
theorem rpanel_open {r : Reach} {b0 : Nat} {v : Value} {d : DataW H} {p : List MemPlace} (hv : Value.okWide Tryz.prog w r b0 24 v) (h : DataW.Trod enc' Tryz.prog w base spare held 24 v d p) :
  ∃ (q : Pan) (vL vR : Value), v = .agg #[sV q.1, .int .i64 q.2.1, vL, vR] ∧ q.1.length ≤ maxLen ∧ SlE w vL q.2.2.1 ∧ SlE w vR q.2.2.2 := by
 obtain ⟨a, b, c, e, y0, y1, y2, y3, n, rfl, _, _, h0, h1, h2, h3⟩ := open_agg4 Tryz.underlying24 (by kernel_rfl) (by kernel_rfl) hv h
 obtain ⟨s, e0, _, hz⟩ := DataW.trod_string Tryz.underlying9 h0
 obtain ⟨n, e1, _⟩ := DataW.trod_int Tryz.underlying3 h1
 obtain ⟨l, hl⟩ := redges_open h2
 obtain ⟨r, hr⟩ := redges_open h3
 obtain ⟨⟨L⟩⟩ := s
 simp at e0 e1
 subst e0 e1
 exact ⟨(L, n, l, r), c, e, rfl, hz, hl, hr⟩
end
theorem law_main : Tryz.pinned.checked.prog.mainIs = some (true, "34484aba8be14fb23b055c34843f68306072b73212b0d88356f17663d5c05954".toList) := by kernel_rfl
theorem law_looks : true = Tryz.pinned.checked.prog.looks [] := by kernel_rfl
theorem u8_range {n : Int} (h : (Lit.int .u8 n).wf = true) : 0 ≤ n ∧ n ≤ 255 := by
 simp [Lit.wf, IntKind.min, IntKind.max, IntKind.signed, IntKind.bits] at h
 omega
end Go.Proofs.YtkkefahobjlagaaGreatDoor
