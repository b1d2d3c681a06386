/- The canonical form of a net, of the program, walked. Conditions: the slices read as lists. -/
import Derived.Test.YtpoaomdpcoaolaaC11
import Derived.Deep.CutRange
import Derived.Test.YtpoaomdpcoaolaaC09
import Derived.Test.YtpoaomdpcoaolaaC10
namespace Go.Proofs.Ytpoaomdpcoaolaa
open Go.RowKit Go.ChangeMaps
set_option maxHeartbeats 4000000
set_option maxRecDepth 100000

/-- the forms of a net, one by one: turned by quarters, then its mirror turned -/
def frm (l : List Bar) (k : Nat) : List Bar := if k < 4 then turnN k l else turnN (k - 4) (mirN l)
def hdK : List Bar → Knot
  | [] => (0, 0)
  | b :: _ => (-b.1, -b.2.1)
/-- a net shifted so that its first bar begins at the origin -/
def nrm (f : List Bar) : List Bar := f.map (shB (hdK f))
def bst (l : List Bar) : Nat → List Bar
  | 0 => []
  | k + 1 => if k = 0 ∨ cmpL (nrm (frm l k)) (bst l k) < 0 then nrm (frm l k) else bst l k
def allN (l : List Bar) : Nat → Bool
  | 0 => true
  | k + 1 => allN l k && allIn (nrm (frm l k))
def canE (l : List Bar) : Int := if netE l ≠ 0 then netE l else if l = [] then 0 else if allN l 8 then 0 else 3
def canL (l : List Bar) : List Bar := if netE l ≠ 0 ∨ l = [] then [] else if allN l 8 then bst l 8 else []
theorem allN_mono {l : List Bar} : ∀ {n m : Nat}, n ≤ m → allN l m = true → allN l n = true
  | n, 0, h, _ => by obtain rfl : n = 0 := by omega
                     rfl
  | n, m + 1, h, h2 => by
    by_cases e : n = m + 1
    · rw [e]; exact h2
    · rw [allN, Bool.and_eq_true] at h2
      exact allN_mono (by omega) h2.1
theorem frm_len (l : List Bar) (k : Nat) : (frm l k).length = l.length := by
  unfold frm
  split
  · exact turnN_len l k
  · rw [turnN_len]; unfold mirN; rw [srtB_length, List.length_map]
theorem mirN_ends {l : List Bar} (h : ∀ b ∈ l, EndsIn b) : ∀ b ∈ mirN l, EndsIn b := fun b hb => by
  unfold mirN at hb
  rw [srtB_mem, List.mem_map] at hb
  obtain ⟨c, hc, rfl⟩ := hb
  rw [mvB_mir]
  exact (h c hc).mir
theorem bst_ne {l : List Bar} (h : l ≠ []) : ∀ k, 0 < k → bst l k ≠ []
  | 0, h0 => by omega
  | k + 1, _ => by
    unfold bst
    split
    · intro e
      have h1 := frm_len l k
      have h2 : (nrm (frm l k)).length = 0 := by rw [e]; rfl
      unfold nrm at h2
      rw [List.length_map, h1] at h2
      exact h (List.eq_nil_of_length_eq_zero h2)
    · rename_i h2
      exact bst_ne h k (by omega)
theorem bst_len (l : List Bar) : ∀ k, (bst l k).length ≤ l.length
  | 0 => by simp [bst]
  | k + 1 => by
    unfold bst
    split
    · unfold nrm; rw [List.length_map, frm_len]; exact Nat.le_refl _
    · exact bst_len l k
theorem hdK_get {X : List Bar} (h : 0 < X.length) : hdK X = (-(X[0]).1, -(X[0]).2.1) := by
  cases X with
  | nil => simp at h
  | cons a r => rfl
end Go.Proofs.Ytpoaomdpcoaolaa

/- The parts of a net, plain, and rows of rows. Conditions: none. -/
namespace Go.Proofs.Ytpoaomdpcoaolaa
open Go.RowKit Go.ChangeMaps
set_option maxHeartbeats 4000000
set_option maxRecDepth 100000

/-- a bar tried: it joins the part if it is a bar of the net that was not seen -/
def tryP (l S P : List Bar) (b : Bar) : List Bar := if (b ∈ S ∨ b ∈ P) ∨ b ∉ l then P else P ++ [b]
def arP (l S : List Bar) (k : Knot) (P : List Bar) : Nat → List Bar
  | 0 => P
  | j + 1 => tryP l S (arP l S k P j) (arB k j)
def enP (l S : List Bar) (b : Bar) (P : List Bar) : Nat → List Bar
  | 0 => P
  | n + 1 => arP l S (endK b n) (enP l S b P n) 4
def colP (l S : List Bar) : Nat → Nat → List Bar → List Bar
  | 0, _, P => P
  | f + 1, i, P => if h : i < P.length then colP l S f (i + 1) (enP l S P[i] P 2) else P
/-- the parts that the first k bars of a net begin -/
def prtO (l : List Bar) : Nat → List (List Bar)
  | 0 => []
  | k + 1 => match l[k]? with
    | none => prtO l k
    | some b => if b ∈ (prtO l k).flatten then prtO l k else prtO l k ++ [srtB (colP l (prtO l k).flatten (l.length + 1) 0 [b])]
def partsL (l : List Bar) : List (List Bar) := prtO l l.length
structure PartOk (l S P : List Bar) : Prop where
  nodup : P.Nodup
  sub : ∀ b ∈ P, b ∈ l
  apart : ∀ b ∈ P, b ∉ S
theorem PartOk.try_ {l S P : List Bar} (h : PartOk l S P) (b : Bar) : PartOk l S (tryP l S P b) := by
  unfold tryP
  split
  · exact h
  · rename_i hn
    simp only [not_or, Decidable.not_not] at hn
    obtain ⟨⟨h1, h2⟩, h3⟩ := hn
    refine ⟨?_, fun c hc => ?_, fun c hc => ?_⟩
    · rw [List.nodup_append]
      exact ⟨h.nodup, by simp, fun a ha c hc e => by
        obtain rfl : c = b := by simpa using hc
        exact h2 (e ▸ ha)⟩
    · rcases List.mem_append.1 hc with hc | hc
      · exact h.sub c hc
      · obtain rfl : c = b := by simpa using hc
        exact h3
    · rcases List.mem_append.1 hc with hc | hc
      · exact h.apart c hc
      · obtain rfl : c = b := by simpa using hc
        exact h1
theorem tryP_len (l S P : List Bar) (b : Bar) : P.length ≤ (tryP l S P b).length := by
  unfold tryP; split <;> simp
theorem PartOk.ar {l S P : List Bar} (h : PartOk l S P) (k : Knot) : ∀ j, PartOk l S (arP l S k P j)
  | 0 => h
  | j + 1 => (PartOk.ar h k j).try_ _
theorem arP_len (l S : List Bar) (k : Knot) (P : List Bar) : ∀ j, P.length ≤ (arP l S k P j).length
  | 0 => Nat.le_refl _
  | j + 1 => Nat.le_trans (arP_len l S k P j) (tryP_len _ _ _ _)
theorem PartOk.en {l S P : List Bar} (h : PartOk l S P) (b : Bar) : ∀ n, PartOk l S (enP l S b P n)
  | 0 => h
  | n + 1 => (PartOk.en h b n).ar _ 4
theorem enP_len (l S : List Bar) (b : Bar) (P : List Bar) : ∀ n, P.length ≤ (enP l S b P n).length
  | 0 => Nat.le_refl _
  | n + 1 => Nat.le_trans (enP_len l S b P n) (arP_len _ _ _ _ 4)
theorem len_sub {α : Type} [DecidableEq α] : ∀ {l D : List α}, l.Nodup → (∀ x ∈ l, x ∈ D) → l.length ≤ D.length
  | [], _, _, _ => by simp
  | a :: l, D, hn, hs => by
    rw [List.nodup_cons] at hn
    have ha := hs a (by simp)
    have := len_sub (D := D.erase a) hn.2 fun x hx => (List.mem_erase_of_ne (fun e : x = a => hn.1 (e ▸ hx))).2 (hs x (by simp [hx]))
    rw [List.length_erase_of_mem ha] at this
    have h0 := List.length_pos_of_mem ha
    simp only [List.length_cons]
    omega
theorem PartOk.len {l S P : List Bar} (h : PartOk l S P) : P.length ≤ l.length := len_sub h.nodup h.sub
theorem PartOk.col {l S : List Bar} : ∀ (f i : Nat) {P : List Bar}, PartOk l S P → PartOk l S (colP l S f i P)
  | 0, _, _, h => h
  | f + 1, i, P, h => by
    unfold colP
    split
    · exact PartOk.col f (i + 1) (h.en _ 2)
    · exact h
theorem colP_go {l S P : List Bar} {f i : Nat} (h : i < P.length) : colP l S (f + 1) i P = colP l S f (i + 1) (enP l S P[i] P 2) := by
  rw [colP, dif_pos h]
theorem colP_end {l S P : List Bar} {f i : Nat} (h : ¬ i < P.length) : colP l S f i P = P := by
  cases f with
  | zero => rfl
  | succ f => rw [colP, dif_neg h]
theorem prtO_succ {l : List Bar} {k : Nat} (hk : k < l.length) : prtO l (k + 1) = if l[k] ∈ (prtO l k).flatten then prtO l k else prtO l k ++ [srtB (colP l (prtO l k).flatten (l.length + 1) 0 [l[k]])] := by
  rw [prtO, List.getElem?_eq_getElem hk]
theorem PartOk.start {l S : List Bar} {b : Bar} (hb : b ∈ l) (hS : b ∉ S) : PartOk l S [b] :=
  ⟨by simp, fun c hc => by obtain rfl : c = b := by simpa using hc
                           exact hb, fun c hc => by obtain rfl : c = b := by simpa using hc
                                                    exact hS⟩
theorem prtO_len (l : List Bar) : ∀ k, (prtO l k).length ≤ k
  | 0 => Nat.le_refl _
  | k + 1 => by
    have := prtO_len l k
    rw [prtO]
    split
    · omega
    · split
      · omega
      · simp; omega
/-- what the map of the bars seen holds -/
def seenO (S : List Bar) (b : Bar) : Option Bool := if b ∈ S then some true else none
theorem seen_put {m : List (Bar × Bool × Nat)} {S : List Bar} {a : Bar} {c : Nat} (h : ∀ b, mget b m = seenO S b) (b : Bar) : mget b (mput a true c m) = seenO (S ++ [a]) b := by
  rw [mget_put, h b]
  unfold seenO
  by_cases hb : b = a
  · simp [hb]
  · simp [hb]
theorem seen_look {m : List (Bar × Bool × Nat)} {S : List Bar} (h : ∀ b, mget b m = seenO S b) (b : Bar) : (match mget b m with | some v => Value.bool v | none => Value.bool false) = Value.bool (decide (b ∈ S)) := by
  rw [h b]
  unfold seenO
  by_cases hb : b ∈ S <;> simp [hb]
theorem seen_congr {m : List (Bar × Bool × Nat)} {S S' : List Bar} (h : ∀ b, mget b m = seenO S b) (hs : ∀ b, b ∈ S ↔ b ∈ S') (b : Bar) : mget b m = seenO S' b := by
  rw [h b]; unfold seenO; simp only [hs b]
/-! ## rows of rows -/
abbrev SlV := Option Addr × Nat × Nat
def slV (t : SlV) : Value := .slice t.1 t.2.1 t.2.2
def rc (t : SlV) : List Value := [slV t]
theorem rc_len (t : SlV) : (rc t).length = 1 := rfl
theorem rc_one (t : SlV) : ∀ u ∈ rc t, u.oneCell' = true := by intro u hu; simp [rc] at hu; subst hu; rfl
theorem rows_elem : Elem Try.prog 76 22 1 24 := ⟨by kernel_rfl, by kernel_rfl, by decide⟩
abbrev OwV (base : Nat) := Own rc 1 base 22
/-- the rows of a row of rows, each a row of the call's own -/
def RowsAt (base : Nat) (w : World) : List SlV → List (List Bar) → Prop
  | [], [] => True
  | t :: ts, L :: Ls => OwB base w (slV t) L ∧ RowsAt base w ts Ls
  | _, _ => False
theorem RowsAt.len {base : Nat} {w : World} : ∀ {ts : List SlV} {Ls : List (List Bar)}, RowsAt base w ts Ls → ts.length = Ls.length
  | [], [], _ => rfl
  | _ :: _, _ :: _, h => by simp [RowsAt.len h.2]
  | [], _ :: _, h => h.elim
  | _ :: _, [], h => h.elim
theorem RowsAt.map_ {base base' : Nat} {w w' : World} (hm : ∀ v L, OwB base w v L → OwB base' w' v L) : ∀ {ts : List SlV} {Ls : List (List Bar)}, RowsAt base w ts Ls → RowsAt base' w' ts Ls
  | [], [], _ => trivial
  | _ :: _, _ :: _, h => ⟨hm _ _ h.1, h.2.map_ hm⟩
  | [], _ :: _, h => h.elim
  | _ :: _, [], h => h.elim
theorem RowsAt.snoc {base : Nat} {w : World} {t : SlV} {L : List Bar} (ht : OwB base w (slV t) L) : ∀ {ts : List SlV} {Ls : List (List Bar)}, RowsAt base w ts Ls → RowsAt base w (ts ++ [t]) (Ls ++ [L])
  | [], [], _ => ⟨ht, trivial⟩
  | _ :: _, _ :: _, h => ⟨h.1, h.2.snoc ht⟩
  | [], _ :: _, h => h.elim
  | _ :: _, [], h => h.elim
theorem RowsAt.get {base : Nat} {w : World} : ∀ {ts : List SlV} {Ls : List (List Bar)} {i : Nat}, RowsAt base w ts Ls → (hi : i < ts.length) → (hj : i < Ls.length) → OwB base w (slV ts[i]) Ls[i]
  | _ :: _, _ :: _, 0, h, _, _ => h.1
  | _ :: _, _ :: _, i + 1, h, hi, hj => by
    simp only [List.getElem_cons_succ]
    exact h.2.get _ _
  | [], _, _, _, hi, _ => by simp at hi
  | _ :: _, [], _, h, _, _ => h.elim
/-- the call returns a fresh row of fresh rows of bars -/
def OwRR (base : Nat) (w : World) (v : Value) (Ls : List (List Bar)) : Prop := ∃ ts, OwV base w v ts ∧ RowsAt base w ts Ls
def RRB (w : World) (Ls : List (List Bar)) (e : Ending) (w' : World) : Prop := ∃ v, e = .returned v ∧ OwRR w.heap.size w' v Ls ∧ Below w.heap.size w w'
theorem Sl.one_row (w : World) (t : SlV) (g : Nat) (hg : w.heap.size = g) : Sl rc 1 (w.alloc (.cells #[slV t] 22)) (.slice (some ⟨g, 0, none⟩) 1 1) [t] := by
  subst hg
  have hB := Blk.new w 22 #[slV t]
  refine ⟨_, 1, rfl, by simp, by simp [maxLen], fun i b hb => ?_⟩
  match i, hb with
  | 0, hb =>
    obtain rfl : t = b := by simpa using hb
    refine ⟨_, 0, rfl, hB.lt, fun j u hj => ?_⟩
    rw [hB.cell]
    simpa [rc] using hj
section
variable {ops : Array Oper} {rest : List Oper} {o : Oper} {a : Act} {Q : Exit → Act → World → Prop} {base : Nat} {W : World} {v : Value} {A : Option Addr} {n c : Nat}
theorem wpList_appR {l : List SlV} (hown : OwV base W v l) {g : Nat} (hgd : o.guard = none) (s x : Operand) (ho : o.op = .call { callee := .builtin .append, args := #[s, x], argTypes := #[76, 76] })
    (hs : a.eval s = v) (hx : a.eval x = .slice (some ⟨g, 0, none⟩) 1 1) (hg : W.heap.size = g) (hlen : l.length ≤ 1000000) (hbase : base ≤ W.heap.size)
    (h : ∀ v' w', OwV base w' v' (l ++ [(A, n, c)]) → (W.alloc (.cells #[.slice A n c] 22)).grownBy w' v.ownBlock → wpList Try.prog ops Q rest (a.put o.dst v') w') :
    wpList Try.prog ops Q (o :: rest) a (W.alloc (.cells #[.slice A n c] 22)) :=
  wpList_app hgd rows_elem rc_len rc_one s x ho base v _ l [(A, n, c)] hs hx (hown.alloc _) (Sl.one_row W (A, n, c) g hg) (by simp [maxLen]; omega) (by simp; omega) (by simp; omega) h
end
/-! ## what a call leaves -/
theorem chg_row {w W W' : World} {r : Nat} {v : Value} {α : Type} {enc : α → List Value} {sz : Nat} {e : TypeId} {l : List α} (h : Chg [r] w W) (hown : Own enc sz w.heap.size e W v l) (hg : W.grownBy W' v.ownBlock) : Chg [r] w W' := by
  exact ⟨hg.os.trans h.os, hg.tape.trans h.tape, hg.output.trans h.output, Nat.le_trans h.size hg.size, fun k hk hn => (hg.block k (by have := h.size; omega) (fun e => by have := (hown.lt k (by simp [← e])).1; omega)).trans (h.block k hk hn)⟩
end Go.Proofs.Ytpoaomdpcoaolaa
