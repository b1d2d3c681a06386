/- Rows of numbers; bars taken away one by one. Conditions: bounds. -/
import Derived.Test.YtpoaomdpcoaolaaC19
import Derived.Test.YtpoaomdpcoaolaaPtwJ
import Derived.Test.YtpoaomdpcoaolaaC18
import Derived.Test.YtpoaomdpcoaolaaC04
import Derived.Test.YtpoaomdpcoaolaaC13
namespace Go.Proofs.Ytpoaomdpcoaolaa
open Go.RowKit Go.ChangeMaps
set_option maxHeartbeats 4000000
set_option maxRecDepth 100000

/-! ## rows of numbers -/
abbrev Cn := Int × Int × Int × Int × Int
def nc (c : Cn) : List Value := [.int .i64 c.1, .int .i64 c.2.1, .int .i64 c.2.2.1, .int .i64 c.2.2.2.1, .int .i64 c.2.2.2.2]
theorem nc_len (c : Cn) : (nc c).length = 5 := rfl
theorem nc_one (c : Cn) : ∀ u ∈ nc c, u.oneCell' = true := by intro u hu; simp [nc] at hu; rcases hu with rfl | rfl | rfl | rfl | rfl <;> rfl
theorem cnt_elem : Elem Try.prog 48 33 5 40 := ⟨by kernel_rfl, by kernel_rfl, by decide⟩
abbrev SlN := Sl nc 5
abbrev OwN (base : Nat) := Own nc 5 base 33
theorem Sl.one_cnt (w : World) (a b c d e : Int) : SlN (w.alloc (.cells #[.int .i64 a, .int .i64 b, .int .i64 c, .int .i64 d, .int .i64 e] 33)) (.slice (some ⟨w.heap.size, 0, none⟩) 1 1) [(a, b, c, d, e)] := by
  have hB := Blk.new w 33 #[.int .i64 a, .int .i64 b, .int .i64 c, .int .i64 d, .int .i64 e]
  refine ⟨_, 1, rfl, by simp, by simp [maxLen], fun i x hx => ?_⟩
  match i, hx with
  | 0, hx =>
    obtain rfl : (a, b, c, d, e) = x := by simpa using hx
    refine ⟨_, 0, rfl, hB.lt, fun j u hj => ?_⟩
    rw [hB.cell]
    simpa [nc] using hj
theorem wpList_appN {ops : Array Oper} {rest : List Oper} {o : Oper} {a : Act} {Q : Exit → Act → World → Prop} {base : Nat} {W : World} {v : Value} {k b m p h : Int} {l : List Cn} (hown : OwN base W v l) (hgd : o.guard = none) (s x : Operand) (ho : o.op = .call { callee := .builtin .append, args := #[s, x], argTypes := #[48, 48] })
    (hs : a.eval s = v) (hx : a.eval x = .slice (some ⟨W.heap.size, 0, none⟩) 1 1) (hlen : l.length ≤ 1000) (hbase : base ≤ W.heap.size)
    (H : ∀ v' w', OwN base w' v' (l ++ [(k, b, m, p, h)]) → (W.alloc (.cells #[.int .i64 k, .int .i64 b, .int .i64 m, .int .i64 p, .int .i64 h] 33)).grownBy w' v.ownBlock → wpList Try.prog ops Q rest (a.put o.dst v') w') :
    wpList Try.prog ops Q (o :: rest) a (W.alloc (.cells #[.int .i64 k, .int .i64 b, .int .i64 m, .int .i64 p, .int .i64 h] 33)) :=
  wpList_app hgd cnt_elem nc_len nc_one s x ho base v _ l [(k, b, m, p, h)] hs hx (hown.alloc _) (Sl.one_cnt W k b m p h) (by simp [maxLen]; omega) (by simp; omega) (by simp; omega) H
theorem Rd.cnt {w : World} {A : Option Addr} {l : List Cn} (h : Rd nc 5 w A l) {k : Nat} (hk : k < l.length) : ∃ b off, A = some ⟨b, off, none⟩ ∧ b < w.heap.size ∧
    w.cell? ⟨b, off + k * 5, none⟩ = some (.int .i64 l[k].1) ∧ w.cell? ⟨b, off + k * 5 + 1, none⟩ = some (.int .i64 l[k].2.1) ∧ w.cell? ⟨b, off + k * 5 + 2, none⟩ = some (.int .i64 l[k].2.2.1) ∧ w.cell? ⟨b, off + k * 5 + 3, none⟩ = some (.int .i64 l[k].2.2.2.1) ∧ w.cell? ⟨b, off + k * 5 + 4, none⟩ = some (.int .i64 l[k].2.2.2.2) := by
  obtain ⟨b, off, e, hlt, hc⟩ := h k l[k] (List.getElem?_eq_getElem hk)
  exact ⟨b, off, e, hlt, by simpa using hc 0 _ rfl, hc 1 _ rfl, hc 2 _ rfl, hc 3 _ rfl, hc 4 _ rfl⟩
/-- a net's numbers -/
def cN (l : List Bar) : Cn := ((holeK l).length, l.length, (meshL l l).length, (partsL l).length, (l.length : Int) - (holeK l).length + (partsL l).length - (meshL l l).length)
theorem cN_of {l : List Bar} {kn bn mn pn : Nat} {hn : Int} (h : Nums l kn bn mn pn hn) : cN l = ((kn : Int), (bn : Int), (mn : Int), (pn : Int), hn) := by
  unfold cN
  rw [h.knots, h.bars, h.meshes, h.parts, h.holes]
/-- what is seen while bars are taken away -/
def seenL (l : List Bar) (o : List Int) (k : Nat) : List Cn := (List.range k).map fun j => cN (wornL l (o.take j))
theorem seenL_len (l : List Bar) (o : List Int) (k : Nat) : (seenL l o k).length = k := by simp [seenL]
theorem seenL_succ (l : List Bar) (o : List Int) (k : Nat) : seenL l o (k + 1) = seenL l o k ++ [cN (wornL l (o.take k))] := by unfold seenL; rw [List.range_succ, List.map_append]; rfl
theorem seenL_get (l : List Bar) (o : List Int) {k j : Nat} (h : j < (seenL l o k).length) : (seenL l o k)[j] = cN (wornL l (o.take j)) := by simp [seenL]
/-- all of a step -/
structure Step (S R R' : List Bar) (b : Bar) (kn bn mn pn : Nat) (hn : Int) : Prop where
  net : netE R = 0
  nums : Nums R kn bn mn pn hn
  net' : netE R' = 0
  one : netE [b] = 0
  less : wout R [b] = R'
  more : setB (R' ++ [b]) = R
  len : R.length = R'.length + 1
theorem step_of {S : List Bar} {o : List Int} (hE : netE S = 0) (ho : OrderOk S o) {k : Nat} (hk : k < o.length) : ∃ hi : (o[k]).toNat < S.length, ∃ kn bn mn pn hn, Step S (wornL S (o.take k)) (wornL S (o.take (k + 1))) S[(o[k]).toNat] kn bn mn pn hn := by
  have hs := (netE_ok hE).sorted
  obtain ⟨hi, h1, h2, h3⟩ := worn_next hs ho hk
  have n1 : netE (wornL S (o.take k)) = 0 := netE_sub hE (wornL_sorted hs _) fun x hx => ((wornL_mem _ _ _).1 hx).1
  have n2 : netE (wornL S (o.take (k + 1))) = 0 := netE_sub hE (wornL_sorted hs _) fun x hx => ((wornL_mem _ _ _).1 hx).1
  have n3 : netE [S[(o[k]).toNat]] = 0 := netE_sub hE (List.pairwise_singleton _ _) fun x hx => by
    obtain rfl := List.mem_singleton.1 hx
    exact List.getElem_mem hi
  obtain ⟨kn, bn, mn, pn, hn, hN⟩ := nums_of n1
  have l1 := worn_len hs ho k (by omega)
  have l2 := worn_len hs ho (k + 1) (by omega)
  exact ⟨hi, kn, bn, mn, pn, hn, n1, hN, n2, n3, h2.symm, h3, by omega⟩
theorem own_apart {base base' : Nat} {w : World} {v u : Value} {l : List Bar} {q : List Cn} (h : OwB base w v l) (h' : OwN base' w u q) : v.ownBlock = none ∨ v.ownBlock ≠ u.ownBlock := by
  obtain ⟨_, h2⟩ := h
  obtain ⟨_, h2'⟩ := h'
  rcases h2 with ⟨rfl, _⟩ | ⟨g, cap, cur, rfl, _, hh, _⟩
  · exact .inl rfl
  · refine .inr fun e => ?_
    rcases h2' with ⟨rfl, _⟩ | ⟨g', cap', cur', rfl, _, hh', _⟩
    · cases e
    · obtain rfl : g = g' := by simpa [Value.ownBlock] using e
      rw [hh] at hh'
      simp at hh'
end Go.Proofs.Ytpoaomdpcoaolaa
