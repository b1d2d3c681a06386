/- The bars around a knot, of the program, walked. Conditions: none. -/
import Derived.Test.YtpompeancmonbaaGreatD07
import Derived.Test.YtpompeancmonbaaGreatD15
import Derived.Test.YtpompeancmonbaaGreatD21
import Derived.Test.YtpompeancmonbaaGreatD20
import Derived.Test.YtpompeancmonbaaGreatD22
import Derived.Test.YtpompeancmonbaaGreatD24
import Derived.Test.YtpompeancmonbaaGreatD12
import Derived.Test.YtpompeancmonbaaGreatD27
import Derived.Test.YtpompeancmonbaaGreatD31
import Derived.Test.YtpompeancmonbaaGreatD33
namespace Go.Proofs.YtpompeancmonbaaGreat
open Go.RowKit Go.ChangeMaps
set_option maxHeartbeats 4000000
set_option maxRecDepth 100000

@[go_sem] theorem idx4_0 (a b c d e f g h i j k l : Int) (w : World) : (Instr.index 160 (.agg #[.int .i64 a, .int .i64 b, .int .i64 c, .int .i64 d, .int .i64 e, .int .i64 f, .int .i64 g, .int .i64 h, .int .i64 i, .int .i64 j, .int .i64 k, .int .i64 l]) (.int .i64 0)).run Tryz.prog w = .ok (.agg #[.int .i64 a, .int .i64 b, .int .i64 c]) w := by kernel_rfl
@[go_sem] theorem idx4_1 (a b c d e f g h i j k l : Int) (w : World) : (Instr.index 160 (.agg #[.int .i64 a, .int .i64 b, .int .i64 c, .int .i64 d, .int .i64 e, .int .i64 f, .int .i64 g, .int .i64 h, .int .i64 i, .int .i64 j, .int .i64 k, .int .i64 l]) (.int .i64 1)).run Tryz.prog w = .ok (.agg #[.int .i64 d, .int .i64 e, .int .i64 f]) w := by kernel_rfl
@[go_sem] theorem idx4_2 (a b c d e f g h i j k l : Int) (w : World) : (Instr.index 160 (.agg #[.int .i64 a, .int .i64 b, .int .i64 c, .int .i64 d, .int .i64 e, .int .i64 f, .int .i64 g, .int .i64 h, .int .i64 i, .int .i64 j, .int .i64 k, .int .i64 l]) (.int .i64 2)).run Tryz.prog w = .ok (.agg #[.int .i64 g, .int .i64 h, .int .i64 i]) w := by kernel_rfl
@[go_sem] theorem idx4_3 (a b c d e f g h i j k l : Int) (w : World) : (Instr.index 160 (.agg #[.int .i64 a, .int .i64 b, .int .i64 c, .int .i64 d, .int .i64 e, .int .i64 f, .int .i64 g, .int .i64 h, .int .i64 i, .int .i64 j, .int .i64 k, .int .i64 l]) (.int .i64 3)).run Tryz.prog w = .ok (.agg #[.int .i64 j, .int .i64 k, .int .i64 l]) w := by kernel_rfl
theorem naround_any (x y : Int) (hx : -1000000 ≤ x ∧ x ≤ 1000000) (hy : -1000000 ≤ y ∧ y ≤ 1000000) (w : World) :
    Calls Tryz.prog 104 #[.agg #[.int .i64 x, .int .i64 y]] w (RV w (.agg #[.int .i64 (x - 1), .int .i64 (y - 1), .int .i64 1, .int .i64 (x + 1), .int .i64 (y - 1), .int .i64 (-1), .int .i64 x, .int .i64 y, .int .i64 (-1), .int .i64 x, .int .i64 y, .int .i64 1])) := by
  go_enter Tryz.func104, Tryz.ntmps104
  go_wp2
  refine bodyPost_ret (v := .agg #[.int .i64 (x - 1), .int .i64 (y - 1), .int .i64 1, .int .i64 (x + 1), .int .i64 (y - 1), .int .i64 (-1), .int .i64 x, .int .i64 y, .int .i64 (-1), .int .i64 x, .int .i64 y, .int .i64 1]) (by simp [results, Tryz.results104, go_sem]) rfl ?_
  exact ⟨rfl, by (repeat (first | exact bl_refl | assumption | (apply bl_then; assumption) | refine bl_alloc ?_ _ | refine bl_drew ?_ | refine bl_drewN ?_ _))⟩
/-- the four bars of a knot, in their order -/
def arB (k : Knot) : Nat → Bar
  | 0 => (k.1 - 1, k.2 - 1, 1)
  | 1 => (k.1 + 1, k.2 - 1, -1)
  | 2 => (k.1, k.2, -1)
  | _ => (k.1, k.2, 1)
def okB (b : Bar) : Bool := decide (barE b.1 b.2.1 b.2.2 = 0)
def arL (k : Knot) : Nat → List Bar
  | 0 => []
  | n + 1 => arL k n ++ if okB (arB k n) then [arB k n] else []
/-- the valid bars of a knot -/
def aroundL (k : Knot) : List Bar := if knotE k.1 k.2 = 0 then arL k 4 else []
theorem arL_len (k : Knot) : ∀ n, (arL k n).length ≤ n
  | 0 => Nat.le_refl _
  | n + 1 => by
    have := arL_len k n
    unfold arL
    rw [List.length_append]
    split <;> simp <;> omega
end Go.Proofs.YtpompeancmonbaaGreat

/- The parts of a net, plain, and rows of rows. Conditions: none. -/
namespace Go.Proofs.YtpompeancmonbaaGreat
open Go.RowKit Go.ChangeMaps
set_option maxHeartbeats 4000000
set_option maxRecDepth 100000

/-- a bar tried: it joins the part if it is a bar of the net that was not seen -/
def tryP (l S P : List Bar) (b : Bar) : List Bar := if (b ∈ S ∨ b ∈ P) ∨ b ∉ l then P else P ++ [b]
def arP (l S : List Bar) (k : Knot) (P : List Bar) : Nat → List Bar
  | 0 => P
  | j + 1 => tryP l S (arP l S k P j) (arB k j)
def enP (l S : List Bar) (b : Bar) (P : List Bar) : Nat → List Bar
  | 0 => P
  | n + 1 => arP l S (endK b n) (enP l S b P n) 4
def colP (l S : List Bar) : Nat → Nat → List Bar → List Bar
  | 0, _, P => P
  | f + 1, i, P => if h : i < P.length then colP l S f (i + 1) (enP l S P[i] P 2) else P
/-- the parts that the first k bars of a net begin -/
def prtO (l : List Bar) : Nat → List (List Bar)
  | 0 => []
  | k + 1 => match l[k]? with
    | none => prtO l k
    | some b => if b ∈ (prtO l k).flatten then prtO l k else prtO l k ++ [srtB (colP l (prtO l k).flatten (l.length + 1) 0 [b])]
def partsL (l : List Bar) : List (List Bar) := prtO l l.length
structure PartOk (l S P : List Bar) : Prop where
  nodup : P.Nodup
  sub : ∀ b ∈ P, b ∈ l
  apart : ∀ b ∈ P, b ∉ S
theorem PartOk.try_ {l S P : List Bar} (h : PartOk l S P) (b : Bar) : PartOk l S (tryP l S P b) := by
  unfold tryP
  split
  · exact h
  · rename_i hn
    simp only [not_or, Decidable.not_not] at hn
    obtain ⟨⟨h1, h2⟩, h3⟩ := hn
    refine ⟨?_, fun c hc => ?_, fun c hc => ?_⟩
    · rw [List.nodup_append]
      exact ⟨h.nodup, by simp, fun a ha c hc e => by
        obtain rfl : c = b := by simpa using hc
        exact h2 (e ▸ ha)⟩
    · rcases List.mem_append.1 hc with hc | hc
      · exact h.sub c hc
      · obtain rfl : c = b := by simpa using hc
        exact h3
    · rcases List.mem_append.1 hc with hc | hc
      · exact h.apart c hc
      · obtain rfl : c = b := by simpa using hc
        exact h1
theorem tryP_len (l S P : List Bar) (b : Bar) : P.length ≤ (tryP l S P b).length := by
  unfold tryP; split <;> simp
theorem PartOk.ar {l S P : List Bar} (h : PartOk l S P) (k : Knot) : ∀ j, PartOk l S (arP l S k P j)
  | 0 => h
  | j + 1 => (PartOk.ar h k j).try_ _
theorem arP_len (l S : List Bar) (k : Knot) (P : List Bar) : ∀ j, P.length ≤ (arP l S k P j).length
  | 0 => Nat.le_refl _
  | j + 1 => Nat.le_trans (arP_len l S k P j) (tryP_len _ _ _ _)
theorem PartOk.en {l S P : List Bar} (h : PartOk l S P) (b : Bar) : ∀ n, PartOk l S (enP l S b P n)
  | 0 => h
  | n + 1 => (PartOk.en h b n).ar _ 4
theorem enP_len (l S : List Bar) (b : Bar) (P : List Bar) : ∀ n, P.length ≤ (enP l S b P n).length
  | 0 => Nat.le_refl _
  | n + 1 => Nat.le_trans (enP_len l S b P n) (arP_len _ _ _ _ 4)
theorem len_sub {α : Type} [DecidableEq α] : ∀ {l D : List α}, l.Nodup → (∀ x ∈ l, x ∈ D) → l.length ≤ D.length
  | [], _, _, _ => by simp
  | a :: l, D, hn, hs => by
    rw [List.nodup_cons] at hn
    have ha := hs a (by simp)
    have := len_sub (D := D.erase a) hn.2 fun x hx => (List.mem_erase_of_ne (fun e : x = a => hn.1 (e ▸ hx))).2 (hs x (by simp [hx]))
    rw [List.length_erase_of_mem ha] at this
    have h0 := List.length_pos_of_mem ha
    simp only [List.length_cons]
    omega
theorem PartOk.len {l S P : List Bar} (h : PartOk l S P) : P.length ≤ l.length := len_sub h.nodup h.sub
theorem PartOk.col {l S : List Bar} : ∀ (f i : Nat) {P : List Bar}, PartOk l S P → PartOk l S (colP l S f i P)
  | 0, _, _, h => h
  | f + 1, i, P, h => by
    unfold colP
    split
    · exact PartOk.col f (i + 1) (h.en _ 2)
    · exact h
theorem colP_go {l S P : List Bar} {f i : Nat} (h : i < P.length) : colP l S (f + 1) i P = colP l S f (i + 1) (enP l S P[i] P 2) := by
  rw [colP, dif_pos h]
theorem colP_end {l S P : List Bar} {f i : Nat} (h : ¬ i < P.length) : colP l S f i P = P := by
  cases f with
  | zero => rfl
  | succ f => rw [colP, dif_neg h]
theorem prtO_succ {l : List Bar} {k : Nat} (hk : k < l.length) : prtO l (k + 1) = if l[k] ∈ (prtO l k).flatten then prtO l k else prtO l k ++ [srtB (colP l (prtO l k).flatten (l.length + 1) 0 [l[k]])] := by
  rw [prtO, List.getElem?_eq_getElem hk]
theorem PartOk.start {l S : List Bar} {b : Bar} (hb : b ∈ l) (hS : b ∉ S) : PartOk l S [b] :=
  ⟨by simp, fun c hc => by obtain rfl : c = b := by simpa using hc
                           exact hb, fun c hc => by obtain rfl : c = b := by simpa using hc
                                                    exact hS⟩
theorem prtO_len (l : List Bar) : ∀ k, (prtO l k).length ≤ k
  | 0 => Nat.le_refl _
  | k + 1 => by
    have := prtO_len l k
    rw [prtO]
    split
    · omega
    · split
      · omega
      · simp; omega
/-- what the map of the bars seen holds -/
def seenO (S : List Bar) (b : Bar) : Option Bool := if b ∈ S then some true else none
theorem seen_put {m : List (Bar × Bool × Nat)} {S : List Bar} {a : Bar} {c : Nat} (h : ∀ b, mget b m = seenO S b) (b : Bar) : mget b (mput a true c m) = seenO (S ++ [a]) b := by
  rw [mget_put, h b]
  unfold seenO
  by_cases hb : b = a
  · simp [hb]
  · simp [hb]
theorem seen_look {m : List (Bar × Bool × Nat)} {S : List Bar} (h : ∀ b, mget b m = seenO S b) (b : Bar) : (match mget b m with | some v => Value.bool v | none => Value.bool false) = Value.bool (decide (b ∈ S)) := by
  rw [h b]
  unfold seenO
  by_cases hb : b ∈ S <;> simp [hb]
theorem seen_congr {m : List (Bar × Bool × Nat)} {S S' : List Bar} (h : ∀ b, mget b m = seenO S b) (hs : ∀ b, b ∈ S ↔ b ∈ S') (b : Bar) : mget b m = seenO S' b := by
  rw [h b]; unfold seenO; simp only [hs b]
/-! ## rows of rows -/
abbrev SlV := Option Addr × Nat × Nat
def slV (t : SlV) : Value := .slice t.1 t.2.1 t.2.2
def rc (t : SlV) : List Value := [slV t]
theorem rc_len (t : SlV) : (rc t).length = 1 := rfl
theorem rc_one (t : SlV) : ∀ u ∈ rc t, u.oneCell' = true := by intro u hu; simp [rc] at hu; subst hu; rfl
theorem rows_elem : Elem Tryz.prog 33 22 1 24 := ⟨by kernel_rfl, by kernel_rfl, by decide⟩
abbrev OwV (base : Nat) := Own rc 1 base 22
/-- the rows of a row of rows, each a row of the call's own -/
def RowsAt (base : Nat) (w : World) : List SlV → List (List Bar) → Prop
  | [], [] => True
  | t :: ts, L :: Ls => OwB base w (slV t) L ∧ RowsAt base w ts Ls
  | _, _ => False
theorem RowsAt.len {base : Nat} {w : World} : ∀ {ts : List SlV} {Ls : List (List Bar)}, RowsAt base w ts Ls → ts.length = Ls.length
  | [], [], _ => rfl
  | _ :: _, _ :: _, h => by simp [RowsAt.len h.2]
  | [], _ :: _, h => h.elim
  | _ :: _, [], h => h.elim
theorem RowsAt.map_ {base base' : Nat} {w w' : World} (hm : ∀ v L, OwB base w v L → OwB base' w' v L) : ∀ {ts : List SlV} {Ls : List (List Bar)}, RowsAt base w ts Ls → RowsAt base' w' ts Ls
  | [], [], _ => trivial
  | _ :: _, _ :: _, h => ⟨hm _ _ h.1, h.2.map_ hm⟩
  | [], _ :: _, h => h.elim
  | _ :: _, [], h => h.elim
theorem RowsAt.snoc {base : Nat} {w : World} {t : SlV} {L : List Bar} (ht : OwB base w (slV t) L) : ∀ {ts : List SlV} {Ls : List (List Bar)}, RowsAt base w ts Ls → RowsAt base w (ts ++ [t]) (Ls ++ [L])
  | [], [], _ => ⟨ht, trivial⟩
  | _ :: _, _ :: _, h => ⟨h.1, h.2.snoc ht⟩
  | [], _ :: _, h => h.elim
  | _ :: _, [], h => h.elim
theorem RowsAt.get {base : Nat} {w : World} : ∀ {ts : List SlV} {Ls : List (List Bar)} {i : Nat}, RowsAt base w ts Ls → (hi : i < ts.length) → (hj : i < Ls.length) → OwB base w (slV ts[i]) Ls[i]
  | _ :: _, _ :: _, 0, h, _, _ => h.1
  | _ :: _, _ :: _, i + 1, h, hi, hj => by
    simp only [List.getElem_cons_succ]
    exact h.2.get _ _
  | [], _, _, _, hi, _ => by simp at hi
  | _ :: _, [], _, h, _, _ => h.elim
/-- the call returns a fresh row of fresh rows of bars -/
def OwRR (base : Nat) (w : World) (v : Value) (Ls : List (List Bar)) : Prop := ∃ ts, OwV base w v ts ∧ RowsAt base w ts Ls
def RRB (w : World) (Ls : List (List Bar)) (e : Ending) (w' : World) : Prop := ∃ v, e = .returned v ∧ OwRR w.heap.size w' v Ls ∧ Below w.heap.size w w'
theorem Sl.one_row (w : World) (t : SlV) (g : Nat) (hg : w.heap.size = g) : Sl rc 1 (w.alloc (.cells #[slV t] 22)) (.slice (some ⟨g, 0, none⟩) 1 1) [t] := by
  subst hg
  have hB := Blk.new w 22 #[slV t]
  refine ⟨_, 1, rfl, by simp, by simp [maxLen], fun i b hb => ?_⟩
  match i, hb with
  | 0, hb =>
    obtain rfl : t = b := by simpa using hb
    refine ⟨_, 0, rfl, hB.lt, fun j u hj => ?_⟩
    rw [hB.cell]
    simpa [rc] using hj
section
variable {ops : Array Oper} {rest : List Oper} {o : Oper} {a : Act} {Q : Exit → Act → World → Prop} {base : Nat} {W : World} {v : Value} {A : Option Addr} {n c : Nat}
theorem wpList_appR {l : List SlV} (hown : OwV base W v l) {g : Nat} (hgd : o.guard = none) (s x : Operand) (ho : o.op = .call { callee := .builtin .append, args := #[s, x], argTypes := #[33, 33] })
    (hs : a.eval s = v) (hx : a.eval x = .slice (some ⟨g, 0, none⟩) 1 1) (hg : W.heap.size = g) (hlen : l.length ≤ 1000000) (hbase : base ≤ W.heap.size)
    (h : ∀ v' w', OwV base w' v' (l ++ [(A, n, c)]) → (W.alloc (.cells #[.slice A n c] 22)).grownBy w' v.ownBlock → wpList Tryz.prog ops Q rest (a.put o.dst v') w') :
    wpList Tryz.prog ops Q (o :: rest) a (W.alloc (.cells #[.slice A n c] 22)) :=
  wpList_app hgd rows_elem rc_len rc_one s x ho base v _ l [(A, n, c)] hs hx (hown.alloc _) (Sl.one_row W (A, n, c) g hg) (by simp [maxLen]; omega) (by simp; omega) (by simp; omega) h
end
/-! ## what a call leaves -/
theorem chg_row {w W W' : World} {r : Nat} {v : Value} {α : Type} {enc : α → List Value} {sz : Nat} {e : TypeId} {l : List α} (h : Chg [r] w W) (hown : Own enc sz w.heap.size e W v l) (hg : W.grownBy W' v.ownBlock) : Chg [r] w W' := by
  exact ⟨hg.os.trans h.os, hg.tape.trans h.tape, hg.output.trans h.output, Nat.le_trans h.size hg.size, fun k hk hn => (hg.block k (by have := h.size; omega) (fun e => by have := (hown.lt k (by simp [← e])).1; omega)).trans (h.block k hk hn)⟩
end Go.Proofs.YtpompeancmonbaaGreat

/- The parts of a net, plain: program and reference. Conditions: the net is in its order. -/
namespace Go.Proofs.YtpompeancmonbaaGreat
open Go.RowKit Go.ChangeMaps
set_option maxHeartbeats 4000000
set_option maxRecDepth 100000

/-- two bars have a common end -/
def Tch (a b : Bar) : Prop := lowK a = lowK b ∨ lowK a = uppK b ∨ uppK a = lowK b ∨ uppK a = uppK b
instance (a b : Bar) : Decidable (Tch a b) := inferInstanceAs (Decidable (_ ∨ _))
theorem Tch.symm {a b : Bar} (h : Tch a b) : Tch b a := by
  unfold Tch at *
  rcases h with h | h | h | h
  · exact .inl h.symm
  · exact .inr (.inr (.inl h.symm))
  · exact .inr (.inl h.symm)
  · exact .inr (.inr (.inr h.symm))
theorem tch_ends {a b : Bar} : Tch a b ↔ ∃ n, n < 2 ∧ (lowK b = endK a n ∨ uppK b = endK a n) := by
  constructor
  · rintro (h | h | h | h)
    · exact ⟨0, by omega, .inl h.symm⟩
    · exact ⟨0, by omega, .inr h.symm⟩
    · exact ⟨1, by omega, .inl h.symm⟩
    · exact ⟨1, by omega, .inr h.symm⟩
  · rintro ⟨n, hn, h⟩
    obtain rfl | rfl : n = 0 ∨ n = 1 := by omega
    · rcases h with h | h
      · exact .inl h.symm
      · exact .inr (.inl h.symm)
    · rcases h with h | h
      · exact .inr (.inr (.inl h.symm))
      · exact .inr (.inr (.inr h.symm))
theorem arB_at (k : Knot) (j : Nat) : lowK (arB k j) = k ∨ uppK (arB k j) = k := by
  obtain ⟨x, y⟩ := k
  match j with
  | 0 => right; simp only [arB, uppK, Prod.mk.injEq] <;> omega
  | 1 => right; simp only [arB, uppK, Prod.mk.injEq] <;> omega
  | 2 => left; simp [arB, lowK]
  | _ + 3 => left; simp [arB, lowK]
theorem arB_of {k : Knot} {c : Bar} (hs : Sided c) (h : lowK c = k ∨ uppK c = k) : ∃ j, j < 4 ∧ arB k j = c := by
  obtain ⟨x, y, s⟩ := c
  unfold Sided at hs
  simp only at hs
  rcases h with rfl | rfl
  · obtain rfl | rfl := hs
    · exact ⟨3, by omega, rfl⟩
    · exact ⟨2, by omega, rfl⟩
  · obtain rfl | rfl := hs
    · exact ⟨0, by omega, by simp only [arB, uppK, Prod.mk.injEq, and_true] <;> omega⟩
    · exact ⟨1, by omega, by simp only [arB, uppK, Prod.mk.injEq, and_true] <;> omega⟩
/-- the bars that are connected with a bar, through bars of a list -/
inductive Conn (l : List Bar) (a : Bar) : Bar → Prop
  | refl : Conn l a a
  | step {b c : Bar} : Conn l a b → c ∈ l → Tch b c → Conn l a c
theorem Conn.mem {l : List Bar} {a b : Bar} (h : Conn l a b) (ha : a ∈ l) : b ∈ l := by
  cases h with
  | refl => exact ha
  | step _ h _ => exact h
theorem Conn.trans {l : List Bar} {a b c : Bar} (h : Conn l a b) (h' : Conn l b c) : Conn l a c := by
  induction h' with
  | refl => exact h
  | step _ hm ht ih => exact ih.step hm ht
theorem Conn.symm {l : List Bar} {a b : Bar} (h : Conn l a b) (ha : a ∈ l) : Conn l b a := by
  induction h with
  | refl => exact .refl
  | step hab hm ht ih => exact (Conn.step .refl (hab.mem ha) ht.symm).trans ih
/-- the tried bars: those of l that are not in S are there behind it -/
theorem tryP_got {l S P : List Bar} {b : Bar} (hb : b ∈ l) : b ∈ tryP l S P b ∨ b ∈ S := by
  unfold tryP
  split
  · rename_i h
    rcases h with (h | h) | h
    · exact .inr h
    · exact .inl h
    · exact absurd hb h
  · exact .inl (by simp)
theorem tryP_pre (l S P : List Bar) (b : Bar) : ∃ r, tryP l S P b = P ++ r := by
  unfold tryP
  split
  · exact ⟨[], by simp⟩
  · exact ⟨[b], rfl⟩
theorem tryP_new {l S P : List Bar} {b x : Bar} (h : x ∈ tryP l S P b) : x ∈ P ∨ x = b := by
  unfold tryP at h
  split at h
  · exact .inl h
  · simpa using h
theorem arP_pre (l S : List Bar) (k : Knot) (P : List Bar) : ∀ j, ∃ r, arP l S k P j = P ++ r
  | 0 => ⟨[], by simp [arP]⟩
  | j + 1 => by
    obtain ⟨r, hr⟩ := arP_pre l S k P j
    obtain ⟨r', hr'⟩ := tryP_pre l S (arP l S k P j) (arB k j)
    exact ⟨r ++ r', by rw [arP, hr', hr, List.append_assoc]⟩
theorem arP_got {l S : List Bar} {k : Knot} {P : List Bar} : ∀ {j i : Nat}, i < j → arB k i ∈ l → arB k i ∈ arP l S k P j ∨ arB k i ∈ S
  | j + 1, i, hi, hm => by
    rw [arP]
    by_cases h : i = j
    · subst h; exact tryP_got hm
    · rcases arP_got (j := j) (by omega) hm with h | h
      · obtain ⟨r, hr⟩ := tryP_pre l S (arP l S k P j) (arB k j)
        exact .inl (by rw [hr]; exact List.mem_append_left _ h)
      · exact .inr h
theorem arP_new {l S : List Bar} {k : Knot} {P : List Bar} {x : Bar} : ∀ {j : Nat}, x ∈ arP l S k P j → x ∈ P ∨ ∃ i, x = arB k i
  | 0, h => .inl h
  | j + 1, h => by
    rw [arP] at h
    rcases tryP_new h with h | h
    · exact arP_new h
    · exact .inr ⟨j, h⟩
theorem enP_two (l S : List Bar) (b : Bar) (P : List Bar) : enP l S b P 2 = arP l S (endK b 1) (arP l S (endK b 0) P 4) 4 := rfl
theorem enP_pre (l S : List Bar) (b : Bar) (P : List Bar) : ∃ r, enP l S b P 2 = P ++ r := by
  obtain ⟨r, hr⟩ := arP_pre l S (endK b 0) P 4
  obtain ⟨r', hr'⟩ := arP_pre l S (endK b 1) (arP l S (endK b 0) P 4) 4
  exact ⟨r ++ r', by rw [enP_two, hr', hr, List.append_assoc]⟩
theorem enP_new {l S P : List Bar} {b x : Bar} (h : x ∈ enP l S b P 2) : x ∈ P ∨ Tch b x := by
  rw [enP_two] at h
  have at_ : ∀ n, n < 2 → ∀ i, x = arB (endK b n) i → Tch b x := fun n hn i e => tch_ends.2 ⟨n, hn, by rw [e]; exact arB_at _ i⟩
  rcases arP_new h with h | ⟨i, h⟩
  · rcases arP_new h with h | ⟨i, h⟩
    · exact .inl h
    · exact .inr (at_ 0 (by omega) i h)
  · exact .inr (at_ 1 (by omega) i h)
theorem enP_got {l S P : List Bar} {b c : Bar} (hs : Sided c) (hc : c ∈ l) (ht : Tch b c) : c ∈ enP l S b P 2 ∨ c ∈ S := by
  rw [enP_two]
  obtain ⟨n, hn, h⟩ := tch_ends.1 ht
  obtain ⟨j, hj, rfl⟩ := arB_of hs h
  obtain rfl | rfl : n = 0 ∨ n = 1 := by omega
  · rcases arP_got (S := S) (P := P) hj hc with h | h
    · obtain ⟨r, hr⟩ := arP_pre l S (endK b 1) (arP l S (endK b 0) P 4) 4
      exact .inl (by rw [hr]; exact List.mem_append_left _ h)
    · exact .inr h
  · exact arP_got hj hc
/-! ## a list that is gone through while it grows -/
def colG (ex : Bar → List Bar → List Bar) : Nat → Nat → List Bar → List Bar
  | 0, _, P => P
  | f + 1, i, P => if h : i < P.length then colG ex f (i + 1) (ex P[i] P) else P
theorem colP_eq (l S : List Bar) : ∀ (f i : Nat) (P : List Bar), colP l S f i P = colG (fun p P => enP l S p P 2) f i P
  | 0, _, _ => rfl
  | f + 1, i, P => by
    rw [colP, colG]
    split
    · exact colP_eq l S f (i + 1) _
    · rfl
structure ExOk (l S : List Bar) (ex : Bar → List Bar → List Bar) : Prop where
  ok : ∀ p P, PartOk l S P → PartOk l S (ex p P)
  pre : ∀ p P, ∃ r, ex p P = P ++ r
  new : ∀ p P x, x ∈ ex p P → x ∈ P ∨ Tch p x
  got : ∀ p P c, c ∈ l → Tch p c → c ∈ ex p P ∨ c ∈ S
theorem colG_spec {l S : List Bar} {ex : Bar → List Bar → List Bar} (E : ExOk l S ex) (a : Bar) : ∀ (f i : Nat) (P : List Bar), PartOk l S P → l.length + 1 ≤ f + i → i ≤ P.length → (∀ x ∈ P, Conn l a x) →
    (∀ j (hj : j < P.length), j < i → ∀ c ∈ l, Tch P[j] c → c ∈ P ∨ c ∈ S) →
    PartOk l S (colG ex f i P) ∧ (∀ x ∈ colG ex f i P, Conn l a x) ∧ (∀ p ∈ colG ex f i P, ∀ c ∈ l, Tch p c → c ∈ colG ex f i P ∨ c ∈ S) ∧ (∀ x ∈ P, x ∈ colG ex f i P)
  | 0, i, P, hP, hf, hi, _, _ => by have := hP.len; omega
  | f + 1, i, P, hP, hf, hi, hc, hd => by
    rw [colG]
    split
    · rename_i hlt
      obtain ⟨r, hr⟩ := E.pre P[i] P
      have hok := E.ok P[i] P hP
      have hlen : P.length ≤ (ex P[i] P).length := by rw [hr]; simp
      have hmem : ∀ x ∈ P, x ∈ ex P[i] P := fun x hx => by rw [hr]; exact List.mem_append_left _ hx
      have := colG_spec E a f (i + 1) (ex P[i] P) hok (by omega) (by omega) (fun x hx => by
        rcases E.new _ _ _ hx with h | h
        · exact hc x h
        · exact (hc _ (List.getElem_mem hlt)).step (hok.sub x hx) h) (fun j hj hji c hcl ht => by
        have hjP : j < P.length := by omega
        have he : (ex P[i] P)[j] = P[j] := by simp only [hr]; exact List.getElem_append_left hjP
        rw [he] at ht
        by_cases hjj : j = i
        · subst hjj; exact E.got _ _ c hcl ht
        · rcases hd j hjP (by omega) c hcl ht with h | h
          · exact .inl (hmem c h)
          · exact .inr h)
      exact ⟨this.1, this.2.1, this.2.2.1, fun x hx => this.2.2.2 x (hmem x hx)⟩
    · rename_i hge
      refine ⟨hP, hc, fun p hp c hcl ht => ?_, fun x hx => hx⟩
      obtain ⟨j, hj, rfl⟩ := List.getElem_of_mem hp
      exact hd j hj (by omega) c hcl ht
/-- what is gone through from a bar, where S is a union of whole parts: the bars that are connected with it -/
theorem colG_conn {l S : List Bar} {ex : Bar → List Bar → List Bar} (E : ExOk l S ex) {a : Bar} (ha : a ∈ l) (haS : a ∉ S) (hS : ∀ s ∈ S, ∀ c ∈ l, Tch s c → c ∈ S) :
    (colG ex (l.length + 1) 0 [a]).Nodup ∧ ∀ x, x ∈ colG ex (l.length + 1) 0 [a] ↔ Conn l a x := by
  obtain ⟨h1, h2, h3, h4⟩ := colG_spec E a (l.length + 1) 0 [a] (PartOk.start ha haS) (by omega) (by simp) (fun x hx => by
    obtain rfl : x = a := by simpa using hx
    exact .refl) (fun j hj h => by omega)
  refine ⟨h1.nodup, fun x => ⟨h2 x, fun h => ?_⟩⟩
  induction h with
  | refl => exact h4 a (by simp)
  | step hab hm ht ih =>
    rcases h3 _ ih _ hm ht with h | h
    · exact h
    · exact absurd (hS _ h _ (h1.sub _ ih) ht.symm) (h1.apart _ ih)
theorem enP_ok {l S : List Bar} (hs : ∀ b ∈ l, Sided b) : ExOk l S (fun p P => enP l S p P 2) :=
  ⟨fun p _ h => h.en p 2, fun p P => enP_pre l S p P, fun _ _ _ h => enP_new h, fun _ _ c hc ht => enP_got (hs c hc) hc ht⟩
/-! ## the parts -/
noncomputable instance (l : List Bar) (a x : Bar) : Decidable (Conn l a x) := Classical.propDecidable _
/-- the bars of a net that are connected with a bar -/
noncomputable def compL (l : List Bar) (a : Bar) : List Bar := l.filter fun x => decide (Conn l a x)
theorem compL_mem {l : List Bar} {a x : Bar} (ha : a ∈ l) : x ∈ compL l a ↔ Conn l a x := by
  unfold compL
  rw [List.mem_filter, decide_eq_true_eq]
  exact ⟨fun h => h.2, fun h => ⟨h.mem ha, h⟩⟩
theorem compL_sorted {l : List Bar} (hs : l.Pairwise bltP) (a : Bar) : (compL l a).Pairwise bltP := by unfold compL; exact hs.filter _
noncomputable def prtC (l : List Bar) : Nat → List (List Bar)
  | 0 => []
  | k + 1 => match l[k]? with
    | none => prtC l k
    | some b => if b ∈ (prtC l k).flatten then prtC l k else prtC l k ++ [compL l b]
theorem prtC_succ {l : List Bar} {k : Nat} (hk : k < l.length) : prtC l (k + 1) = if l[k] ∈ (prtC l k).flatten then prtC l k else prtC l k ++ [compL l l[k]] := by
  rw [prtC, List.getElem?_eq_getElem hk]
theorem prtC_flat (l : List Bar) : ∀ (k : Nat), k ≤ l.length → ∀ x, x ∈ (prtC l k).flatten ↔ ∃ j, ∃ hj : j < l.length, j < k ∧ Conn l l[j] x
  | 0, _, x => by simp [prtC]
  | k + 1, hk, x => by
    have ih := prtC_flat l k (by omega)
    rw [prtC_succ (by omega)]
    have hlt : k < l.length := by omega
    split
    · rename_i hm
      rw [ih]
      constructor
      · rintro ⟨j, hj, h1, h2⟩; exact ⟨j, hj, by omega, h2⟩
      · rintro ⟨j, hj, h1, h2⟩
        by_cases hjk : j = k
        · subst hjk
          obtain ⟨i, hi, hik, hc⟩ := (ih _).1 hm
          exact ⟨i, hi, hik, hc.trans h2⟩
        · exact ⟨j, hj, by omega, h2⟩
    · simp only [List.flatten_append, List.mem_append, List.flatten_cons, List.flatten_nil, List.append_nil]
      rw [ih, compL_mem (List.getElem_mem hlt)]
      constructor
      · rintro (⟨j, hj, h1, h2⟩ | h)
        · exact ⟨j, hj, by omega, h2⟩
        · exact ⟨k, hlt, by omega, h⟩
      · rintro ⟨j, hj, h1, h2⟩
        by_cases hjk : j = k
        · subst hjk; exact .inr h2
        · exact .inl ⟨j, hj, by omega, h2⟩
theorem prtC_closed (l : List Bar) {k : Nat} (hk : k ≤ l.length) : ∀ s ∈ (prtC l k).flatten, ∀ c ∈ l, Tch s c → c ∈ (prtC l k).flatten := fun s hs c hc ht => by
  rw [prtC_flat l k hk] at *
  obtain ⟨j, hj, h1, h2⟩ := hs
  exact ⟨j, hj, h1, h2.step hc ht⟩
theorem prtO_prtC {l : List Bar} (hs : l.Pairwise bltP) (hd : ∀ b ∈ l, Sided b) : ∀ (k : Nat), k ≤ l.length → prtO l k = prtC l k
  | 0, _ => rfl
  | k + 1, hk => by
    have ih := prtO_prtC hs hd k (by omega)
    have hlt : k < l.length := by omega
    rw [prtO_succ hlt, prtC_succ hlt, ih]
    by_cases hm : l[k] ∈ (prtC l k).flatten
    · rw [if_pos hm, if_pos hm]
    · rw [if_neg hm, if_neg hm]
      congr 2
      obtain ⟨h1, h2⟩ := colG_conn (enP_ok (S := (prtC l k).flatten) hd) (List.getElem_mem hlt) hm (prtC_closed l (by omega))
      rw [← colP_eq] at h1 h2
      exact sortedB_eq (srtB_sorted h1) (compL_sorted hs _) fun x => by rw [srtB_mem, compL_mem (List.getElem_mem hlt)]; exact h2 x
theorem partsL_eq {l : List Bar} (hs : l.Pairwise bltP) (hd : ∀ b ∈ l, Sided b) : partsL l = prtC l l.length := prtO_prtC hs hd _ (Nat.le_refl _)
/-! ## the parts of the reference -/
def rtry (p : Bar) (P : List Bar) (c : Bar) : List Bar := if Tch p c ∧ c ∉ P then P ++ [c] else P
def rrow (l : List Bar) (p : Bar) (P : List Bar) : List Bar := l.foldl (rtry p) P
def rcol (l : List Bar) (f i : Nat) (P : List Bar) : List Bar := colG (rrow l) f i P
theorem rtry_ok {l S P : List Bar} {p c : Bar} (hS : S = []) (h : PartOk l S P) (hc : c ∈ l) : PartOk l S (rtry p P c) := by
  subst hS
  unfold rtry
  split
  · rename_i hn
    refine ⟨?_, fun x hx => ?_, fun x _ => by simp⟩
    · rw [List.nodup_append]
      exact ⟨h.nodup, by simp, fun a ha b hb e => by
        obtain rfl : b = c := by simpa using hb
        exact hn.2 (e ▸ ha)⟩
    · rcases List.mem_append.1 hx with hx | hx
      · exact h.sub x hx
      · obtain rfl : x = c := by simpa using hx
        exact hc
  · exact h
theorem rrow_spec (l : List Bar) (p : Bar) : ∀ (m P : List Bar), (∀ x ∈ m, x ∈ l) → PartOk l [] P → PartOk l [] (m.foldl (rtry p) P) ∧ (∃ r, m.foldl (rtry p) P = P ++ r) ∧ (∀ x ∈ m.foldl (rtry p) P, x ∈ P ∨ Tch p x) ∧ ∀ c ∈ m, Tch p c → c ∈ m.foldl (rtry p) P
  | [], P, _, hP => ⟨hP, ⟨[], by simp⟩, fun x h => .inl h, fun c h => by simp at h⟩
  | c :: m, P, hm, hP => by
    obtain ⟨h1, ⟨r, hr⟩, h3, h4⟩ := rrow_spec l p m (rtry p P c) (fun x hx => hm x (by simp [hx])) (rtry_ok rfl hP (hm c (by simp)))
    have hpre : ∃ r', rtry p P c = P ++ r' := by
      unfold rtry
      split
      · exact ⟨_, rfl⟩
      · exact ⟨[], by simp⟩
    obtain ⟨r', hr'⟩ := hpre
    refine ⟨h1, ⟨r' ++ r, by rw [List.foldl_cons, hr, hr', List.append_assoc]⟩, fun x hx => ?_, fun x hx ht => ?_⟩
    · rcases h3 x hx with h | h
      · unfold rtry at h
        split at h
        · rename_i hn
          rcases List.mem_append.1 h with h | h
          · exact .inl h
          · obtain rfl : x = c := by simpa using h
            exact .inr hn.1
        · exact .inl h
      · exact .inr h
    · rcases List.mem_cons.1 hx with rfl | hx
      · rw [List.foldl_cons, hr]
        refine List.mem_append_left _ ?_
        unfold rtry
        split
        · simp
        · rename_i hn
          exact Decidable.byContradiction fun h => hn ⟨ht, h⟩
      · exact h4 x hx ht
theorem rrow_pre (l : List Bar) (p : Bar) : ∀ (P : List Bar), ∃ r, rrow l p P = P ++ r := by
  unfold rrow
  induction l with
  | nil => exact fun P => ⟨[], by simp⟩
  | cons c l ih =>
    intro P
    obtain ⟨r, hr⟩ := ih (rtry p P c)
    have hpre : ∃ r', rtry p P c = P ++ r' := by
      unfold rtry
      split
      · exact ⟨_, rfl⟩
      · exact ⟨[], by simp⟩
    obtain ⟨r', hr'⟩ := hpre
    exact ⟨r' ++ r, by rw [List.foldl_cons, hr, hr', List.append_assoc]⟩
theorem rrow_new (p : Bar) : ∀ (l P : List Bar) (x : Bar), x ∈ rrow l p P → x ∈ P ∨ Tch p x
  | [], P, x, h => .inl h
  | c :: l, P, x, h => by
    rcases rrow_new p l (rtry p P c) x h with h | h
    · unfold rtry at h
      split at h
      · rename_i hn
        rcases List.mem_append.1 h with h | h
        · exact .inl h
        · obtain rfl : x = c := by simpa using h
          exact .inr hn.1
      · exact .inl h
    · exact .inr h
theorem rrow_got (p : Bar) : ∀ (l P : List Bar) (c : Bar), c ∈ l → Tch p c → c ∈ rrow l p P
  | a :: l, P, c, hc, ht => by
    rcases List.mem_cons.1 hc with rfl | hc
    · obtain ⟨r, hr⟩ := rrow_pre l p (rtry p P c)
      show c ∈ rrow l p (rtry p P c)
      rw [hr]
      refine List.mem_append_left _ ?_
      unfold rtry
      split
      · simp
      · rename_i hn
        exact Decidable.byContradiction fun h => hn ⟨ht, h⟩
    · exact rrow_got p l (rtry p P a) c hc ht
theorem rrow_ok (l : List Bar) : ExOk l [] (rrow l) :=
  ⟨fun p P h => (rrow_spec l p l P (fun _ h => h) h).1, fun p P => rrow_pre l p P, fun p P x h => rrow_new p l P x h, fun p P c hc ht => .inl (rrow_got p l P c hc ht)⟩
/-- the part of a bar, of the reference -/
def rpart (l : List Bar) (b : Bar) : List Bar := setB (rcol l (l.length + 1) 0 [b])
theorem rpart_eq {l : List Bar} (hs : l.Pairwise bltP) {b : Bar} (hb : b ∈ l) : rpart l b = compL l b := by
  obtain ⟨h1, h2⟩ := colG_conn (rrow_ok l) hb (by simp) (fun s h => by simp at h)
  exact sortedB_eq (setB_sorted _) (compL_sorted hs _) fun x => by unfold rpart rcol; rw [setB_mem, compL_mem hb]; exact h2 x
/-- the parts that the first k bars of a net begin, of the reference -/
def rprt (l : List Bar) : Nat → List (List Bar)
  | 0 => []
  | k + 1 => match l[k]? with
    | none => rprt l k
    | some b => if b ∈ (rprt l k).flatten then rprt l k else rprt l k ++ [rpart l b]
theorem rprt_succ {l : List Bar} {k : Nat} (hk : k < l.length) : rprt l (k + 1) = if l[k] ∈ (rprt l k).flatten then rprt l k else rprt l k ++ [rpart l l[k]] := by
  rw [rprt, List.getElem?_eq_getElem hk]
theorem rprt_prtC {l : List Bar} (hs : l.Pairwise bltP) : ∀ (k : Nat), k ≤ l.length → rprt l k = prtC l k
  | 0, _ => rfl
  | k + 1, hk => by
    have hlt : k < l.length := by omega
    rw [rprt_succ hlt, prtC_succ hlt, rprt_prtC hs k (by omega), rpart_eq hs (List.getElem_mem hlt)]
theorem parts_ref {l : List Bar} (hs : l.Pairwise bltP) (hd : ∀ b ∈ l, Sided b) : partsL l = rprt l l.length := by
  rw [partsL_eq hs hd, rprt_prtC hs _ (Nat.le_refl _)]
end Go.Proofs.YtpompeancmonbaaGreat
