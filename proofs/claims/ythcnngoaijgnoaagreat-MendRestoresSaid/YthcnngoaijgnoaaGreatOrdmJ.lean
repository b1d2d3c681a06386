/- A region that draws its order and turns one map: what it reads holds while the map is turned. Conditions: the Bool 'ordB' over the region; the reads hold in every world of the class. -/
import Derived.Test.YthcnngoaijgnoaaGreatK11
import Derived.Test.YthcnngoaijgnoaaGreatK01
import Derived.Test.YthcnngoaijgnoaaGreatMenJ
namespace Go.Proofs.YthcnngoaijgnoaaGreat
open Go.RowKit Go.ChangeMaps

/-- A world that is as w was below block B, and of which p holds. -/
def BelM (B : Nat) (w : World) (p : World → Prop) : Type := { x : World // Below B w x ∧ p x }
section
variable {B : Nat} {w w' : World} {p : World → Prop}
def BelM.val (g : BelM B w p) : World := g.1
theorem BelM.below (g : BelM B w p) : Below B w g.val := g.2.1
theorem BelM.has (g : BelM B w p) : p g.val := g.2.2
@[go_sem] theorem BelM.cellAt (g : BelM B w p) (b o : Nat) (h : b < B) : g.val.cell? ⟨b, o, none⟩ = w.cell? ⟨b, o, none⟩ := g.2.1.cell (p := ⟨b, o, none⟩) h
@[go_sem] theorem BelM.frozenAt (g : BelM B w p) (b o : Nat) (h : b < B) : g.val.frozen? ⟨b, o, none⟩ = w.frozen? ⟨b, o, none⟩ := g.2.1.frozen (p := ⟨b, o, none⟩) h
theorem BelM.ex (h : Below B w w') (hp : p w') : ∃ g : BelM B w p, w' = g.val := ⟨⟨w', h, hp⟩, rfl⟩
theorem BelM.none_empty (h : Below B w w') (hp : p w') : Nonempty (BelM B w p) := ⟨⟨w', h, hp⟩⟩
theorem bl_setBlock {a : World} {r : Nat} {o : Obj} (h : Below B a w) (hr : B ≤ r) : Below B a (setBlock w r o) :=
  h.trans ⟨rfl, rfl, rfl, by simp [setBlock], fun k hk => by
    show (w.heap.setIfInBounds r o)[k]? = _
    rw [Array.getElem?_setIfInBounds_ne (by omega)]⟩
end

section
variable {P : Program} {ops : Array Oper} {Q : Exit → Act → World → Prop} {C : World → Prop}
theorem wp_region_ordm {id : Nat} {a : Act} {w : World} {l : List Oper} (B : Nat) (p : World → Prop) (pre : List Nat) (mid : List (Nat × Bool)) (post : List Nat) (hm : P.follows .mixedOrders = true) (hB : ordB .any l.toArray pre mid post = true)
    (hQ : ∀ d c a v w, Q (.panic c) (Act.put a d v) w → Q (.panic c) a w) (hp : p w.drew)
    (h : wpQuiet P l.toArray (fun w' => ∃ g : BelM B w p, w' = g.val) (fun a' => wpMid P l.toArray Q (fun w' => ∃ g : BelM B w p, w' = g.val) (post.map fun i => l.getD i default) (mid.map fun i => (l.getD i.1 default, i.2)) a' w.drew) (pre.map fun i => l.getD i default) a) :
    (Code.region id l.toArray true).wp P Q a w := by
  simp only [ordB, Bool.and_eq_true, decide_eq_true_eq] at hB
  obtain ⟨⟨hs, hn⟩, hB'⟩ := hB
  refine wp_region_any hm (wpAny_of_G (C := fun w' => ∃ g : BelM B w p, w' = g.val) (kp := fun j => !post.contains j) _ _ _ _ ?_)
  rw [hn, Nat.add_assoc]
  refine wpAnyG_pre hs hQ (BelM.ex (Below.refl B w).drew hp) pre _ a (Closed.start _) (by simpa [hn, Nat.add_assoc] using hB') ?_
  have e : ∀ (xs : List Nat), (xs.map fun i => l.toArray.getD i default) = xs.map fun i => l.getD i default := fun xs => List.map_congr_left fun i _ => by simp [Array.getD_eq_getD_getElem?, List.getD_eq_getElem?_getD]
  have e2 : (mid.map fun i => (l.toArray.getD i.1 default, i.2)) = mid.map fun i => (l.getD i.1 default, i.2) := List.map_congr_left fun i _ => by simp [Array.getD_eq_getD_getElem?, List.getD_eq_getElem?_getD]
  rw [e, e, e2]
  exact h
unseal wpMid in
/-- an operation that is carried out; behind it the class is shown again -/
theorem wpMid_runm {B : Nat} {p : World → Prop} {w0 : World} {post : List Oper} {o : Oper} {r : List (Oper × Bool)} {a : Act} {w : World} (hw : Region.wanted o (yielded ops a.tmps) = true)
    (h : ∀ K : Act → World → Prop, (∀ a w', Below B w0 w' → p w' → wpMid P ops Q (fun w' => ∃ g : BelM B w0 p, w' = g.val) post r a w' → K a w') → o.wp P a w K Q) :
    wpMid P ops Q (fun w' => ∃ g : BelM B w0 p, w' = g.val) post ((o, false) :: r) a w := by
  have := h (fun a w' => (∃ g : BelM B w0 p, w' = g.val) ∧ wpMid P ops Q (fun w' => ∃ g : BelM B w0 p, w' = g.val) post r a w') (fun a w h1 h2 h3 => ⟨BelM.ex h1 h2, h3⟩)
  simp only [wpMid, Bool.false_eq_true, if_false, hw, if_true]
  exact this
end

section
variable {κ : Type} [DecidableEq κ]
variable {ek : κ → Value} {w : World} {r : Nat} {m : List (κ × Nat × Nat)} {c : Nat} {P : Program} {k e t : TypeId}
/-- how a count lies in a map -/
def cntV (n : Nat) : Value := .int .i64 (n : Int)
/-- 'm[k]++', its operations apart -/
theorem MapAt.incr (h : MapAt ek cntV w r m c) (ok : MOk m c) (K : KeyLaw P k ek) (ht : P.underlying t = some (.map k e)) (hz : ∀ u : World, (zeroValue e).run P u = .ok (.int .i64 0) u) (a : κ) {v0 : Nat} (hv : (mget a m).getD 0 = v0) :
    ∃ (w1 w2 : World) (sm c2 : Nat), (Instr.mapEntry t (.map (some r)) (ek a)).run P w = .ok (.tuple #[.int .i64 (v0 : Int), .int .i64 (sm : Int)]) w1 ∧
      (Instr.lookup t (.map (some r)) (ek a) false).run P w = .ok (.int .i64 (v0 : Int)) w ∧ (Instr.lookup t (.map (some r)) (ek a) false).run P w1 = .ok (.int .i64 (v0 : Int)) w1 ∧
      (Instr.entryStore t (.map (some r)) (.int .i64 (sm : Int)) (.int .i64 ((v0 + 1 : Nat) : Int))).run P w1 = .ok () w2 ∧
      MapAt ek cntV w2 r (mput a (v0 + 1) c m) c2 ∧ MOk (mput a (v0 + 1) c m) c2 ∧ (∀ B, B ≤ r → Below B w w1) ∧ (∀ B, B ≤ r → Below B w w2) := by
  have hlt := h.lt
  have e1 := h.entry K ht (z := 0) (hz w) a
  rw [hv] at e1
  have h1 : MapAt ek cntV (setBlock w r (.map ((mput a v0 c m).map (ment ek cntV)).toArray (mclk a m c))) r (mput a v0 c m) (mclk a m c) := by
    show (w.heap.setIfInBounds r _)[r]? = _
    rw [Array.getElem?_setIfInBounds_self_of_lt hlt]
  have ok1 := ok.put a v0
  have e2 := h.look K ht (hz w) a
  have e3 := h1.look K ht (hz _) a
  have e4 := h1.estore (t := t) ok1 a (mput_mem a v0 c m) (v0 + 1) (P := P)
  rw [mput_put, mstamp_put] at e4
  have h2 : MapAt ek cntV (setBlock (setBlock w r (.map ((mput a v0 c m).map (ment ek cntV)).toArray (mclk a m c))) r (.map ((mput a (v0 + 1) c m).map (ment ek cntV)).toArray (mclk a m c))) r (mput a (v0 + 1) c m) (mclk a m c) := by
    show ((w.heap.setIfInBounds r _).setIfInBounds r _)[r]? = _
    rw [Array.getElem?_setIfInBounds_self_of_lt (by simp; exact hlt)]
  refine ⟨_, _, mstamp a m c, mclk a m c, ?_, ?_, ?_, e4, h2, ok.put a (v0 + 1), fun B hB => bl_setBlock (Below.refl _ _) hB, fun B hB => bl_setBlock (bl_setBlock (Below.refl _ _) hB) hB⟩
  · exact e1
  · rw [e2]
    cases hm : mget a m with
    | none => rw [hm] at hv; obtain rfl : 0 = v0 := hv; rfl
    | some q => rw [hm] at hv; obtain rfl : q = v0 := hv; rfl
  · rw [e3, mget_put, if_pos rfl]; rfl
end
end Go.Proofs.YthcnngoaijgnoaaGreat
