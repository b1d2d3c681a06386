/- Lists of panels among the statements' arguments; sizes of texts, plain. Conditions: none. -/
import Derived.Test.YtkkefahobjlagaaGreatDoorQ41
import Derived.Test.YtkkefahobjlagaaGreatDoorQ53
import Derived.Test.YtkkefahobjlagaaGreatDoorQ54
namespace Go.Proofs.YtkkefahobjlagaaGreatDoor
open Go.RowKit Go.ChangeMaps
set_option maxHeartbeats 4000000
set_option maxRecDepth 100000
open Go.ChangeShapes Go.WideShapes Go.ChangeAt Go.Deep Go.Joins
section
variable {H : Type} {enc' : TypeId × Value → H} {P : Program} {w : World} {base : Nat} {spare : Nat → Bool} {held : Bool}
theorem sl_openP {α : Type} [Inhabited α] {en : α → List Value} {sz : Nat} {t e : TypeId} {fuel : Nat} {c : Value} {x : DataW H × List MemPlace} (Q : α → Prop) (ht : P.underlying t = some (.slice e)) (hC : P.cellsOf e = sz) (hpos : 0 < sz)
  (hel : ∀ fuel cs y, DataW.trod enc' P w base spare held fuel e cs = some y → ∃ a : α, cs = en a ∧ Q a) (h : DataW.trod enc' P w base spare held fuel t [c] = some x) : ∃ l : List α, Sl en sz w c l ∧ ∀ a ∈ l, Q a := by
 rcases open_slice ht h with ⟨hcs, _⟩ | ⟨a, len, cap, m, n, D, Pl, hcs, hb, hl, hm, hmm, _, hx⟩
 ·obtain rfl : c = .slice none 0 0 := by simpa using hcs
  exact ⟨[], Sl.nil_, by simp⟩
 ·obtain rfl : c = .slice (some a) len cap := by simpa using hcs
  have hlm : len ≤ m := by rw [hmm]; split <;> omega
  have each : ∀ i, i < len → ∃ z : α, ((en z).length = sz ∧ Q z) ∧ ∀ j, j < sz → w.cell? (a.add (i * sz + j)) = (en z)[j]? := fun i hi => by
   obtain ⟨cs', h1, h2⟩ := hx i (by omega)
   rw [hC] at h1
   obtain ⟨z, rfl, hq⟩ := hel _ _ _ h2
   obtain ⟨_, hlen, hcell⟩ := World.cells?_some h1
   exact ⟨z, ⟨hlen, hq⟩, fun j hj => by rw [← add_add]; exact hcell j hj⟩
  obtain ⟨f, hf⟩ := choose_lt each
  refine ⟨(List.range len).map f, ⟨some a, cap, by simp, by simpa using hl, hm, fun i x hx => ?_⟩, fun z hz => ?_⟩
  ·rw [List.getElem?_map] at hx
   have hi : i < len := by
    by_cases hi : i < len
    ·exact hi
    ·rw [List.getElem?_eq_none (by simpa using hi)] at hx; cases hx
   rw [List.getElem?_range hi] at hx
   obtain rfl : f i = x := by simpa using hx
   obtain ⟨⟨hfl, _⟩, hfc⟩ := hf i hi
   have hc0 := hfc 0 hpos
   have hl0 : 0 < (en (f i)).length := by omega
   rw [List.getElem?_eq_getElem hl0] at hc0
   obtain ⟨b, off, spot⟩ := a
   have hspot : spot = none := by
    have := World.cell?_spot hc0
    unfold Addr.add at this
    split at this
    ·exact this
    ·rename_i hne
     have h0 := hf 0 (by omega)
     have := h0.2 0 hpos
     rw [List.getElem?_eq_getElem (by omega)] at this
     have := World.cell?_spot this
     simpa [Addr.add] using this
   subst hspot
   have hadd : ∀ n, (⟨b, off, none⟩ : Addr).add n = ⟨b, off + n, none⟩ := fun n => by
    unfold Addr.add
    split
    ·rename_i h0; rw [h0]; rfl
    ·rfl
   refine ⟨b, off, rfl, ?_, fun j u hu => ?_⟩
   ·rw [hadd] at hc0
    unfold World.cell? at hc0
    by_cases hbl : b < w.heap.size
    ·exact hbl
    ·simp [Array.getElem?_eq_none (show w.heap.size ≤ b by omega)] at hc0
   ·have hj : j < sz := by rw [← hfl]; exact (List.getElem?_eq_some_iff.1 hu).1
    have := hfc j hj
    rw [hadd, hu, ← Nat.add_assoc] at this
    exact this
  ·obtain ⟨i, hi, rfl⟩ := List.mem_map.1 hz
   exact (hf i (List.mem_range.1 hi)).1.2
theorem trod_struct4 {t : TypeId} {f0 f1 f2 f3 : Field} {fuel : Nat} {cs : List Value} {x : DataW H × List MemPlace} (ht : P.underlying t = some (.struct #[f0, f1, f2, f3])) (h : DataW.trod enc' P w base spare held fuel t cs = some x) :
  ∃ y0 y1 y2 y3 n, cs.length = P.cellsOf t ∧ DataW.trod enc' P w base spare held n f0.type ((cs.drop f0.offset).take (P.cellsOf f0.type)) = some y0 ∧
   DataW.trod enc' P w base spare held n f1.type ((cs.drop f1.offset).take (P.cellsOf f1.type)) = some y1 ∧ DataW.trod enc' P w base spare held n f2.type ((cs.drop f2.offset).take (P.cellsOf f2.type)) = some y2 ∧
   DataW.trod enc' P w base spare held n f3.type ((cs.drop f3.offset).take (P.cellsOf f3.type)) = some y3 := by
 obtain ⟨xs, n, _, rfl, hl, hlen, hf⟩ := DataW.trod_struct ht h
 match xs, hlen with
 | [y0, y1, y2, y3], _ => exact ⟨y0, y1, y2, y3, n, hl, by simpa using hf 0 f0 rfl, by simpa using hf 1 f1 rfl, by simpa using hf 2 f2 rfl, by simpa using hf 3 f3 rfl⟩
end
instance : Inhabited PnV := ⟨([], 0, (none, 0, 0), (none, 0, 0))⟩
theorem sl_form {α : Type} {en : α → List Value} {sz : Nat} {w : World} {c : Value} {l : List α} (h : Sl en sz w c l) : ∃ x : SlV, c = slV x := by
 obtain ⟨A, k, rfl, _⟩ := h
 exact ⟨(A, _, k), rfl⟩
section
variable {H : Type} {enc' : TypeId × Value → H} {w : World} {base : Nat} {spare : Nat → Bool} {held : Bool}
theorem rpan_trod {fuel : Nat} {cs : List Value} {y : DataW H × List MemPlace} (h : DataW.trod enc' Tryz.prog w base spare held fuel 24 cs = some y) : ∃ a : PnV, cs = pnc a ∧ ∃ p : Pan, PnAt w a p ∧ p.1.length ≤ maxLen := by
 obtain ⟨y0, y1, y2, y3, n, hl, h0, h1, h2, h3⟩ := trod_struct4 Tryz.underlying24 h
 obtain ⟨s, e0, _, hz⟩ := DataW.trod_string Tryz.underlying9 h0
 obtain ⟨i, e1, _⟩ := DataW.trod_int Tryz.underlying3 h1
 have hC : Tryz.prog.cellsOf 24 = 4 := by kernel_rfl
 have hI : Tryz.prog.cellsOf 3 = 1 := by kernel_rfl
 have hS : Tryz.prog.cellsOf 9 = 1 := by kernel_rfl
 have hE : Tryz.prog.cellsOf 22 = 1 := by kernel_rfl
 rw [hC] at hl
 simp only [hI, hS] at e0 e1
 simp only [hE] at h2 h3
 obtain ⟨⟨L⟩⟩ := s
 match cs, hl with
 | [p, q, r, u], _ =>
  simp at e0 e1
  subst e0 e1
  obtain ⟨l, hl⟩ := redges_open (c := r) h2
  obtain ⟨m, hm⟩ := redges_open (c := u) h3
  obtain ⟨v1, rfl⟩ := sl_form hl
  obtain ⟨v2, rfl⟩ := sl_form hm
  exact ⟨(L, i, v1, v2), rfl, (L, i, l, m), ⟨rfl, rfl, hl, hm⟩, hz⟩
theorem pns_of {w : World} : ∀ {xs : List PnV}, (∀ a ∈ xs, ∃ p : Pan, PnAt w a p ∧ p.1.length ≤ maxLen) → ∃ l : List Pan, PnsAt w xs l ∧ ∀ p ∈ l, p.1.length ≤ maxLen
 | [], _ => ⟨[], trivial, by simp⟩
 | x :: r, h => by
  obtain ⟨p, hp, hz⟩ := h x (List.mem_cons_self ..)
  obtain ⟨l, hl, hm⟩ := pns_of fun a ha => h a (List.mem_cons_of_mem _ ha)
  refine ⟨p :: l, ⟨hp, hl⟩, fun q hq => ?_⟩
  rcases List.mem_cons.1 hq with rfl | hq
  ·exact hz
  ·exact hm q hq
theorem rpanels_open {r : Reach} {b0 : Nat} {v : Value} {d : DataW H} {p : List MemPlace} (hv : Value.okWide Tryz.prog w r b0 78 v) (h : DataW.Trod enc' Tryz.prog w base spare held 78 v d p) :
  ∃ l : List Pan, SlP w v l ∧ ∀ q ∈ l, q.1.length ≤ maxLen := by
 obtain ⟨a, n, c, rfl⟩ := okWide_slice Tryz.underlying78 hv
 obtain ⟨m, hm⟩ := h
 obtain ⟨xs, h1, h2⟩ := sl_openP (en := pnc) (sz := 4) (fun a => ∃ p : Pan, PnAt w a p ∧ p.1.length ≤ maxLen) Tryz.underlying78 (by kernel_rfl) (by decide) (fun _ _ _ h => rpan_trod h) (c := .slice a n c) (by simpa [Value.cells] using hm)
 obtain ⟨l, h3, h4⟩ := pns_of h2
 exact ⟨l, ⟨xs, h1, h3⟩, h4⟩
theorem str_open {r : Reach} {b0 : Nat} {v : Value} {d : DataW H} {p : List MemPlace} (hv : Value.okWide Tryz.prog w r b0 9 v) (h : DataW.Trod enc' Tryz.prog w base spare held 9 v d p) :
  ∃ s : List UInt8, v = .string ⟨s.toArray⟩ ∧ s.length ≤ maxLen := by
 obtain ⟨b, rfl, _, _, hz⟩ := open_string Tryz.underlying9 hv h
 obtain ⟨⟨L⟩⟩ := b
 exact ⟨L, rfl, hz⟩
end
theorem rfGo_shape : ∀ (L : List Str) (out : List Pan) (pl i : Nat), (rfGo L out pl i).1 = [] ∨ (rfGo L out pl i).2 = (0, 0)
 | [], out, _, _ => .inr rfl
 | [x], out, pl, i => by
  rw [rfGo]
  split
  ·exact .inl rfl
  ·split
   ·exact .inl rfl
   ·exact .inr rfl
 | x :: y :: r, out, pl, i => by
  rw [rfGo]
  split
  ·exact rfGo_shape (y :: r) _ _ _
  ·exact .inl rfl
theorem rfGo_zero : ∀ (L : List Str) (out : List Pan) (pl i : Nat), (rfGo L out pl i).2.2 = 0 → (rfGo L out pl i).2.1 = 0
 | [], out, _, _, _ => rfl
 | [x], out, pl, i, h => by
  rw [rfGo] at h ⊢
  split
  ·rename_i hx; simp [hx] at h
  ·rename_i hx
   rw [if_neg hx] at h
   split
   ·rename_i hp; simp [hp] at h
   ·rfl
 | x :: y :: r, out, pl, i, h => by
  rw [rfGo] at h ⊢
  split
  ·rename_i hx
   rw [if_pos hx] at h
   exact rfGo_zero (y :: r) _ _ _ h
  ·rename_i hx
   rw [if_neg hx] at h
   exact absurd h hx
theorem parR_zero {s : Str} (h : (parR s).2.2 = 0) : (parR s).2.1 = 0 := by
 rw [← rf_par] at h ⊢
 unfold rfR at h ⊢
 split
 ·rename_i hx; simp [hx] at h
 ·rename_i hx
  rw [if_neg hx] at h
  exact rfGo_zero _ _ _ _ h
theorem parR_shape (s : Str) : (parR s).1 = [] ∨ allE (parR s).1 = 0 := by
 have h : (parR s).1 = [] ∨ (parR s).2 = (0, 0) := by
  rw [← rf_par]
  unfold rfR
  split
  ·exact .inl rfl
  ·exact rfGo_shape _ _ _ _
 rcases h with h | h
 ·exact .inl h
 ·exact .inr (par_prn (s := s) (x := (parR s).1) (Prod.ext rfl h)).1
theorem allE_few {l : List Pan} (h : allE l = 0) : l.length ≤ 16 ∧ ∀ p ∈ l, p.2.2.1.length ≤ 64 ∧ p.2.2.2.length ≤ 64 ∧ p.1.length ≤ 1000 := by
 obtain ⟨h1, h2⟩ := allE_zero h
 refine ⟨h1, fun p hp => ?_⟩
 have ok := panE_zero (h2 p hp)
 refine ⟨ok.left.few, ok.right.few, ?_⟩
 have hn := ok.name
 unfold nameR at hn
 simp only [Bool.and_eq_true, decide_eq_true_eq] at hn
 omega
theorem parR_few (s : Str) : (parR s).1.length ≤ 100000 ∧ ∀ p ∈ (parR s).1, p.2.2.1.length ≤ 100000 ∧ p.2.2.2.length ≤ 100000 := by
 rcases parR_shape s with h | h
 ·rw [h]; simp
 ·obtain ⟨h1, h2⟩ := allE_few h
  refine ⟨by omega, fun p hp => ?_⟩
  obtain ⟨a, b, _⟩ := h2 p hp
  omega
theorem linesS_short (side : Str) (hs : side.length ≤ 10) {l : List Edg} (h : ∀ e ∈ l, edgE e = 0) (hl : l.length ≤ 3) : (linesS side l).length ≤ 600 := by
 have := linesS_len side hs l h
 omega
theorem short_edges {p : Pan} {n : Int} (h : shortP p n = true) (ok : PanOk p) : p.2.2.1.length ≤ 3 ∧ p.2.2.2.length ≤ 3 := by
 have h1 := ok.left.few
 have h2 := ok.right.few
 unfold shortP shortS at h
 simp only [Bool.and_eq_true, Bool.not_eq_true', Bool.and_eq_false_iff, decide_eq_false_iff_not, decide_eq_true_eq] at h
 omega
theorem panS_short {p : Pan} {n : Int} (h : shortP p n = true) (ok : PanOk p) : (panS p).length ≤ 1400 := by
 obtain ⟨h1, h2⟩ := short_edges h ok
 have a := headS_len ok
 have b := linesS_short leftW (by simp [leftW]) ok.left.ok h1
 have c := linesS_short rightW (by simp [rightW]) ok.right.ok h2
 unfold panS
 simp only [List.length_append]
 have : endW.length = 4 := rfl
 omega
theorem prnT_short {n : Int} : ∀ {l : List Pan}, (∀ p ∈ l, shortP p n = true ∧ PanOk p) → (prnT l).length ≤ 1400 * l.length
 | [], _ => by simp [prnT]
 | p :: r, h => by
  have h1 := prnT_short fun x hx => h x (List.mem_cons_of_mem _ hx)
  have h2 := panS_short (h p (List.mem_cons_self ..)).1 (h p (List.mem_cons_self ..)).2
  unfold prnT at h1 ⊢
  rw [List.flatMap_cons, List.length_append, List.length_cons]
  omega
theorem short_prn {l : List Pan} (h : shortPs l 3 20 = true) (ha : allE l = 0) : (prnT l).length ≤ 4200 ∧ prnE l = 0 ∧ prnS l = prnT l ∧ l.length ≤ 3 := by
 obtain ⟨h1, h2, h3⟩ := shortPs_in h
 obtain ⟨h4, h5⟩ := allE_zero ha
 have hl : l.length ≤ 3 := by omega
 have h6 := prnT_short fun p hp => ⟨h3 p hp, panE_zero (h5 p hp)⟩
 have h7 : (prnT l).length ≤ 4200 := by omega
 have h8 : prnE l = 0 := by
  unfold prnE whenI
  rw [if_neg (by simp [ha]), if_neg (by simp; omega)]
 exact ⟨h7, h8, by unfold prnS; rw [if_pos h8], hl⟩
theorem prnT_nil {l : List Pan} (h : (prnT l).length = 0) : l = [] := by
 cases l with
 | nil => rfl
 | cons p r =>
  unfold prnT panS headS at h
  simp at h
end Go.Proofs.YtkkefahobjlagaaGreatDoor
