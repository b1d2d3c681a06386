/- The place behind a letter; outlines, walked. Conditions: bounds. -/
import Derived.Test.YtkkefahobjlagaaGreatDoorQ14
import Derived.Test.YtkkefahobjlagaaGreatDoorQ12
import Derived.Test.YtkkefahobjlagaaGreatDoorQ10
import Derived.Lib.AtoiAllCases
import Derived.Lib.Strings
import Derived.Lib.SplitLaws
namespace Go.Proofs.YtkkefahobjlagaaGreatDoor
open Go.RowKit Go.ChangeMaps
set_option maxHeartbeats 4000000
set_option maxRecDepth 100000
attribute [local go_sem] Oper.semAt_some
theorem after_any (x y : Int) (c : UInt8) (right : Bool) (hx : -10000000 ≤ x ∧ x ≤ 10000000) (hy : -10000000 ≤ y ∧ y ≤ 10000000) (w : World) :
  Calls Tryz.prog 124 #[.agg #[.int .i64 x, .int .i64 y], .int .u8 c.toNat, .bool right] w (RV w (.agg #[.int .i64 (aft (x, y) c right).1, .int .i64 (aft (x, y) c right).2])) := by
 have e78 : c = 78 ↔ c.toNat = 78 := by rw [← UInt8.toNat_inj]; rfl
 have e66 : c = 66 ↔ c.toNat = 66 := by rw [← UInt8.toNat_inj]; rfl
 have hK := Blk.new w 40 #[.int .i64 x, .int .i64 y]
 have fhK := hK.facts
 obtain ⟨n, hn⟩ : ∃ n, c.toNat = n := ⟨_, rfl⟩
 rw [hn] at e78 e66 ⊢
 by_cases h1 : n = 78
 ·have HA : Hid (aft (x, y) c right = (x, y + 2)) := by unfold Hid aft; rw [if_pos (e78.2 h1)]
  have t1 : ((n : Int) == 78) = true := by rw [h1]; rfl
  clear e78 e66 hn
  cases right
  all_goals
   clear h1
   go_enter Tryz.func124, Tryz.ntmps124
   go_wp2
   refine bodyPost_ret (v := .agg #[.int .i64 x, .int .i64 (y + 2)]) (by simp [results, Tryz.results124, go_sem]) rfl ?_
   exact ⟨by rw [HA.out], by (repeat first|exact J0|assumption|(apply J1;assumption)|apply J2|apply J3|apply J4)⟩
 have t1 : ((n : Int) == 78) = false := beq_false_of_ne (by omega)
 by_cases h2 : n = 66
 ·have HA : Hid (aft (x, y) c right = (x + sideI right, y + 1)) := by unfold Hid aft; rw [if_neg (fun h => h1 (e78.1 h)), if_pos (e66.2 h2)]
  have t2 : ((n : Int) == 66) = true := by rw [h2]; rfl
  clear e78 e66 hn
  cases right
  ·clear h1 h2
   go_enter Tryz.func124, Tryz.ntmps124
   go_wp2
   refine bodyPost_ret (v := .agg #[.int .i64 (x + -1), .int .i64 (y + 1)]) (by simp [results, Tryz.results124, go_sem]) rfl ?_
   exact ⟨by rw [HA.out]; rfl, by (repeat first|exact J0|assumption|(apply J1;assumption)|apply J2|apply J3|apply J4)⟩
  ·clear h1 h2
   go_enter Tryz.func124, Tryz.ntmps124
   go_wp2
   refine bodyPost_ret (v := .agg #[.int .i64 (x + 1), .int .i64 (y + 1)]) (by simp [results, Tryz.results124, go_sem]) rfl ?_
   exact ⟨by rw [HA.out]; rfl, by (repeat first|exact J0|assumption|(apply J1;assumption)|apply J2|apply J3|apply J4)⟩
 have t2 : ((n : Int) == 66) = false := beq_false_of_ne (by omega)
 have HA : Hid (aft (x, y) c right = (x + 2 * sideI right, y)) := by unfold Hid aft; rw [if_neg (fun h => h1 (e78.1 h)), if_neg (fun h => h2 (e66.1 h))]
 clear e78 e66 hn
 cases right
 ·clear h1 h2
  go_enter Tryz.func124, Tryz.ntmps124
  go_wp2
  refine bodyPost_ret (v := .agg #[.int .i64 (x + -2), .int .i64 y]) (by simp [results, Tryz.results124, go_sem]) rfl ?_
  exact ⟨by rw [HA.out]; rfl, by (repeat first|exact J0|assumption|(apply J1;assumption)|apply J2|apply J3|apply J4)⟩
 ·clear h1 h2
  go_enter Tryz.func124, Tryz.ntmps124
  go_wp2
  refine bodyPost_ret (v := .agg #[.int .i64 (x + 2), .int .i64 y]) (by simp [results, Tryz.results124, go_sem]) rfl ?_
  exact ⟨by rw [HA.out]; rfl, by (repeat first|exact J0|assumption|(apply J1;assumption)|apply J2|apply J3|apply J4)⟩
section
variable {α : Type} {F : Fence} {m : Nat} {P : Program} {D : Nat} {I : List α → World → Prop} {Ix : Code → List α → World → Prop} {Kp : World → World → Prop}
def Rdy (D : Nat) (rec : LoopState → Option Code → Loop) (W : World) : Prop := W.heap[D + 1]? = some (.loop (rec .ready none)) ∧ W.heap[D]? = some (.deferred (some []))
def Dne (D : Nat) (rec : LoopState → Option Code → Loop) (c : Code) (W : World) : Prop := W.heap[D + 1]? = some (.loop (rec .done (some c))) ∧ W.heap[D]? = some (.deferred (some []))
theorem Rdy.keeps {rec : LoopState → Option Code → Loop} {W W' : World} (h : Rdy D rec W) (hk : KeepsFrom D W W') : Rdy D rec W' := ⟨hk.same _ _ (by omega) h.1 rfl, hk.same _ _ (Nat.le_refl _) h.2 rfl⟩
def rndPost (D : Nat) (rec : LoopState → Option Code → Loop) (I : List α → World → Prop) (Ix : Code → List α → World → Prop) (Kp : World → World → Prop) (xs : List α) (W : World) (e : Ending) (W' : World) : Prop :=
 (e = .returned (.bool true) ∧ I xs W' ∧ Rdy D rec W' ∧ Kp W W') ∨ (e = .returned (.bool false) ∧ ∃ c, Ix c xs W' ∧ Dne D rec c W')
theorem round_cell {fn : FuncId} {tmps : Array Value} {ps : Array Tmp} {assign body : Code} {rec : LoopState → Option Code → Loop} (hrec : rec = fun st pe => { state := st, pending := pe, fn, tmps, params := ps, assign, body, defers := D })
    (hfn : F.fn fn) {args : Array Value} (hps : args.size = ps.size) (hI : OwnFrom D I) (hIx : ∀ c, OwnFrom D (Ix c)) (hKt : ∀ {A B C : World}, Kp A B → Kp B C → Kp A C) (hKb : ∀ (W : World) (o : Obj), Kp W (W.putObj (D + 1) o))
    {pre : List α} {x : α} {W : World} {a₁ : Act} (hi : I pre W) (hR : Rdy D rec W)
    (hassign : ∀ K : Act → World → Prop, K a₁ W → assign.wpIn (F.inRound (D + 1)) m P (Exit.then K (fun _ _ _ => False)) { tmps := (ps.zip args).foldl (fun t (p, v) => t.setIfInBounds p v) tmps, defers := [] } W)
    (hbody : ∀ W2, I pre W2 → Kp W W2 → body.wpIn (F.inRound (D + 1)) m P (ownPostG D Kp I Ix (pre ++ [x]) W2) a₁ W2) :
    YieldAt F m P (D + 1) args W (rndPost D rec I Ix Kp (pre ++ [x]) W) := by
  obtain ⟨hl, hd⟩ := hR
  have hy := run_yield (P := P) (args := args) hl (by rw [hrec]; exact hps)
  rw [hrec] at hy
  refine ⟨fn, _, assign, body, hy, roundIn_of_wpIn hfn (hassign _ ?_)⟩
  have hlt : D + 1 < W.heap.size := (Array.getElem?_eq_some_iff.1 hl).1
  refine ⟨_, run_beginRound hl (by rw [hrec]), ?_⟩
  obtain ⟨B, hB⟩ : ∃ B : Loop, B = { rec .ready none with state := .busy } := ⟨_, rfl⟩
  rw [← hB]
  have hb1 : (W.putObj (D + 1) (.loop B)).heap[D + 1]? = some (.loop B) := World.putObj_heap_same hlt
  have hb2 : (W.putObj (D + 1) (.loop B)).heap[D]? = some (.deferred (some [])) := (World.putObj_heap_other (by omega)).trans hd
  refine wpIn_mono (hbody _ (hI.putObj _ hi (by omega) hl rfl) (hKb _ _)) ?_
  have ends : ∀ (jump : Option Code) (W3 : World), KeepsFrom D (W.putObj (D + 1) (.loop B)) W3 → ∃ W4, W4 = W3.putObj (D + 1) (.loop (rec (if jump.isNone then .ready else .done) jump)) ∧ (Instr.endRound (D + 1) jump).run P W3 = .ok (.bool jump.isNone) W4 ∧ W3.heap[D + 1]? = some (.loop B) ∧
      W4.heap[D + 1]? = some (.loop (rec (if jump.isNone then .ready else .done) jump)) ∧ W4.heap[D]? = some (.deferred (some [])) := fun jump W3 hk => by
    have h3 := hk.same _ _ (by omega) hb1 rfl
    have hr := run_endRound (P := P) jump h3
    rw [hB, hrec] at hr
    refine ⟨_, rfl, by rw [hrec]; exact hr, h3, World.putObj_heap_same (Array.getElem?_eq_some_iff.1 h3).1, (World.putObj_heap_other (by omega)).trans (hk.same _ _ (Nat.le_refl _) hb2 rfl)⟩
  rintro e a3 W3 hp
  cases e with
  | normal =>
    obtain ⟨hk3, hp3, hi3⟩ := hp
    obtain ⟨W4, rfl, hr, h3, h4, h5⟩ := ends none W3 hk3
    exact ⟨_, _, hr, .inl ⟨rfl, hI.putObj _ hi3 (by omega) h3 rfl, ⟨h4, h5⟩, hKt (hKb _ _) (hKt hp3 (hKb _ _))⟩⟩
  | ret =>
    obtain ⟨hk3, hi3⟩ := hp
    obtain ⟨W4, rfl, hr, h3, h4, h5⟩ := ends (some .ret) W3 hk3
    exact ⟨_, _, hr, .inr ⟨rfl, .ret, (hIx _).putObj _ hi3 (by omega) h3 rfl, h4, h5⟩⟩
  | exit id =>
    obtain ⟨hk3, hi3⟩ := hp
    obtain ⟨W4, rfl, hr, h3, h4, h5⟩ := ends (some (.exit id)) W3 hk3
    exact ⟨_, _, hr, .inr ⟨rfl, .exit id, (hIx _).putObj _ hi3 (by omega) h3 rfl, h4, h5⟩⟩
  | goto t =>
    obtain ⟨hk3, hi3⟩ := hp
    obtain ⟨W4, rfl, hr, h3, h4, h5⟩ := ends (some (.goto t)) W3 hk3
    exact ⟨_, _, hr, .inr ⟨rfl, .goto t, (hIx _).putObj _ hi3 (by omega) h3 rfl, h4, h5⟩⟩
  | panic ch => exact hp.elim
  | outgrown => exact hp.elim
theorem wpIn_range_cell {n : Nat} {g : Operand} {ps : Array Tmp} {assign body : Code} {Q : Exit → Act → World → Prop} {a : Act} {w : World} (hD : w.heap.size = D)
  (hro : F.round = none) (h1 : 1 ≤ n) {gf : Nat} {lb : Array Value} (hg : a.eval g = .func (.func gf) #[] lb) (hFg : F.fn gf) (eg : ∀ args w, (callFunc gf args).run P w = .ok (.enter gf args) w)
  {encs : α → Array Value} (hps : ∀ x, (encs x).size = ps.size) (hI : OwnFrom D I) (hIx : ∀ c, OwnFrom D (Ix c)) (hKt : ∀ {A B C : World}, Kp A B → Kp B C → Kp A C) (hKb : ∀ (W : World) (o : Obj), Kp W (W.putObj (D + 1) o)) (h0 : I [] w) (a₁ : α → Act)
  (hassign : ∀ (x : α) (W : World) (K : Act → World → Prop), K (a₁ x) W → assign.wpIn (F.inRound (D + 1)) (n - 1 - 1) P (Exit.then K (fun _ _ _ => False)) { tmps := (ps.zip (encs x)).foldl (fun t (p, v) => t.setIfInBounds p v) a.tmps, defers := [] } W)
  {Pm : List α → α → World → Prop} (hPm : ∀ pre x W W2, Pm pre x W → Kp W W2 → Pm pre x W2)
  (hbody : ∀ (pre : List α) (x : α) (W : World), I pre W → Pm pre x W → body.wpIn (F.inRound (D + 1)) (n - 1 - 1) P (ownPostG D Kp I Ix (pre ++ [x]) W) (a₁ x) W)
  {S : List α → Prop}
  (hseq : ∀ (rec : LoopState → Option Code → Loop) (W1 : World), Below D w W1 → W1.heap.size = D + 2 → I [] W1 → Rdy D rec W1 →
   (∀ pre x W, I pre W → Pm pre x W → Rdy D rec W → YieldAt F (n - 1 - 1) P (D + 1) (encs x) W (rndPost D rec I Ix Kp (pre ++ [x]) W)) →
   CallsIn F (n - 1) P gf (#[.func (.yield (D + 1)) #[] #[]] ++ lb) W1 fun e W' => (∃ v, e = .returned v) ∧ ((∃ xs, S xs ∧ I xs W' ∧ Rdy D rec W') ∨ ∃ c pre, Ix c pre W' ∧ Dne D rec c W'))
  (hdone : ∀ (xs : List α) (W : World), S xs → I xs W → W.heap[D]? = some (.deferred (some [])) → Q .normal { a with defers := { target := .collected D, args := #[] } :: a.defers } W)
  (hstop : ∀ (c : Code) (pre : List α) (W : World), Ix c pre W → W.heap[D]? = some (.deferred (some [])) → c.wpIn F n P Q { a with defers := { target := .collected D, args := #[] } :: a.defers } W) :
  (Code.rangeFunc g ps assign body).wpIn F n P Q a w := by
 subst hD
 refine wpIn_rangeFunc fun fn hfn => ?_
 rw [hro]
 obtain ⟨rec, hrec⟩ : ∃ rec : LoopState → Option Code → Loop, rec = fun st pe => { state := st, pending := pe, fn, tmps := a.tmps, params := ps, assign, body, defers := w.heap.size } := ⟨_, rfl⟩
 have hent := run_enterLoop_outer (P := P) (w := w) fn a.tmps ps assign body
 obtain ⟨W1, hW1⟩ : ∃ W1, (w.alloc (.deferred (some []))).alloc (.loop (rec .ready none)) = W1 := ⟨_, rfl⟩
 have hR : Rdy w.heap.size rec W1 := by
  rw [← hW1]
  refine ⟨?_, (Below.heap_alloc _ _ _ (by simp)).trans (World.alloc_heap_new w _)⟩
  have := World.alloc_heap_new (w.alloc (.deferred (some []))) (.loop (rec .ready none))
  rwa [World.size_alloc] at this
 have hIW : I [] W1 := by rw [← hW1]; exact hI.alloc _ (hI.alloc _ h0)
 have hbW : Below w.heap.size w W1 := by rw [← hW1]; exact ((Below.refl _ w).alloc (Nat.le_refl _) _).alloc (by simp) _
 have hsW : W1.heap.size = w.heap.size + 2 := by rw [← hW1]; simp
 refine ⟨w.heap.size + 1, [{ target := .collected w.heap.size, args := #[] }], W1, { target := .fn (.func gf) lb, args := #[.func (.yield (w.heap.size + 1)) #[] #[]] }, W1, gf,
  #[.func (.yield (w.heap.size + 1)) #[] #[]] ++ lb, W1, by rw [← hW1, hrec]; exact hent, by simp only [resolve, hg]; simp [go_sem], fun f' hf' => by simp [Target.leads] at hf'; subst hf'; exact hFg, by simp [invoke, go_sem, eg], fun _ => h1, ?_⟩
 refine (hseq rec W1 hbW hsW hIW hR fun pre x W hi hp hr => ?_).mono ?_
 ·exact round_cell (Kp := Kp) (I := I) (Ix := Ix) (a₁ := a₁ x) hrec hfn (hps x) hI hIx hKt hKb hi hr (hassign x W) fun W2 hi2 hk2 => hbody pre x W2 hi2 (hPm _ _ _ _ hp hk2)
 ·rintro e W2 ⟨⟨v, rfl⟩, ⟨xs, hS, hi, hl, hd⟩ | ⟨c, pre, hi, hl, hd⟩⟩
  ·have hend := run_endLoop (P := P) hl (by rw [hrec]; simp)
   rw [hrec] at hend
   exact ⟨none, _, hend, hdone xs _ hS (hI.putObj _ hi (by omega) hl rfl) ((World.putObj_heap_other (by omega)).trans hd)⟩
  ·have hend := run_endLoop (P := P) hl (by rw [hrec]; simp)
   rw [hrec] at hend
   exact ⟨some c, _, hend, hstop c pre _ ((hIx c).putObj _ hi (by omega) hl rfl) ((World.putObj_heap_other (by omega)).trans hd)⟩
end
end Go.Proofs.YtkkefahobjlagaaGreatDoor
namespace Go.Proofs.YtkkefahobjlagaaGreatDoor
open Go.RowKit Go.ChangeMaps
set_option maxHeartbeats 4000000
set_option maxRecDepth 100000
theorem itoa_any' (n : Int) (h : -9223372036854775808 ≤ n ∧ n ≤ 9223372036854775807) (w : World) (hL : Lay w) : Calls Tryz.prog 98 #[.int .i64 n] w (RV w (.string ⟨(Lib.itoa n).toArray⟩)) := by
 refine (str_strconv_Itoa n h.1 h.2 w hL.tab).mono ?_
 rintro e w' ⟨rfl, k, os, rfl⟩
 exact ⟨rfl, bl_then (below_grow _ os) (bl_drewN bl_refl k)⟩
theorem cutSuf_any (s : Str) (hs : s.length ≤ 1000000) (w : World) : Calls Tryz.prog 156 #[sV s, sV [10]] w (fun e w' => e = .returned (.tuple #[sV (Lib.trimSuffix s [10]), .bool (Lib.hasSuffix s [10])]) ∧ w' = w) :=
 str_strings_CutSuffix ⟨s.toArray⟩ ⟨#[10]⟩ w (by simp [ByteArray.size]; omega)
theorem str_take (w : Str) (n : Nat) : Value.string (({ data := w.toArray } : ByteArray).extract 0 n) = sV (w.take n) := by
 unfold sV
 congr 1
 apply ByteArray.ext
 simp [ByteArray.data_extract]
def wordsL (s : Str) : List Str := (Lib.splitB ⟨#[32]⟩ 0 (Lib.countB ⟨s.toArray⟩ ⟨#[32]⟩) ⟨s.toArray⟩).map fun b => b.data.toList
theorem wordsL_len (s : Str) : (wordsL s).length = Lib.countB ⟨s.toArray⟩ ⟨#[32]⟩ + 1 := by
 unfold wordsL
 rw [List.length_map, Lib.splitB_all _ (by decide) _ _ _ rfl]
theorem wordsL_le (s : Str) : (wordsL s).length ≤ s.length + 1 := by
 rw [wordsL_len]
 have := Lib.countB_le ⟨#[32]⟩ (by decide) _ ⟨s.toArray⟩ (Nat.le_refl _)
 simp [ByteArray.size] at this
 omega
def strc (s : Str) : List Value := [sV s]
theorem split_any (s : Str) (hs : s.length ≤ 1000000) (w : World) (hL : Lay w) : Calls Tryz.prog 157 #[sV s, sV [32]] w (fun e w' => ∃ c, e = .returned (.slice (some ⟨w.heap.size, 0, none⟩) (wordsL s).length c) ∧ Rd strc 1 w' (some ⟨w.heap.size, 0, none⟩) (wordsL s) ∧ (wordsL s).length ≤ c ∧ c ≤ maxLen ∧ Below w.heap.size w w') := by
 obtain ⟨m, hm⟩ := hL.mx
 refine (str_strings_Split ⟨s.toArray⟩ ⟨#[32]⟩ m w (by simp [ByteArray.size]; omega) hm (by decide)).mono ?_
 rintro e w' ⟨rfl, rfl⟩
 have hl := wordsL_len s
 have hle := wordsL_le s
 refine ⟨_, by rw [hl], fun i x hx => ?_, by rw [hl]; exact Nat.le_refl _, by unfold maxLen; omega, bl_alloc bl_refl _⟩
 have hB := Blk.new w 9 (((Lib.splitB ⟨#[32]⟩ 0 (Lib.countB ⟨s.toArray⟩ ⟨#[32]⟩) ⟨s.toArray⟩).map Value.string).toArray)
 refine ⟨_, 0, rfl, hB.lt, fun j u hu => ?_⟩
 match j, hu with
 | 0, hu =>
  rw [hB.cell]
  unfold wordsL at hx
  rw [List.getElem?_map, Option.map_eq_some_iff] at hx
  obtain ⟨b, hb, rfl⟩ := hx
  have hu' : sV b.data.toList = u := by simpa [strc] using hu
  subst hu'
  simp [hb, sV]
theorem splitB_size (sep : ByteArray) : ∀ (k : Nat) (s : ByteArray), ∀ b ∈ Lib.splitB sep 0 k s, b.size ≤ s.size
 | 0, s, b, h => by
  obtain rfl : b = s := by simpa [Lib.splitB] using h
  exact Nat.le_refl _
 | k + 1, s, b, h => by
  rw [Lib.splitB] at h
  split at h
  ·obtain rfl : b = s := by simpa using h
   exact Nat.le_refl _
  ·rcases List.mem_cons.1 h with rfl | h
   ·rw [ByteArray.size_extract]; omega
   ·have := splitB_size sep k _ b h
    rw [ByteArray.size_extract] at this
    omega
theorem wordsL_size {s w : Str} (h : w ∈ wordsL s) : w.length ≤ s.length := by
 unfold wordsL at h
 obtain ⟨b, hb, rfl⟩ := List.mem_map.1 h
 have := splitB_size _ _ _ b hb
 have h2 : ({ data := s.toArray } : ByteArray).size = s.length := by simp [ByteArray.size]
 rw [h2] at this
 rw [Array.length_toList]
 exact this
end Go.Proofs.YtkkefahobjlagaaGreatDoor
namespace Go.Proofs.YtkkefahobjlagaaGreatDoor
open Go.RowKit Go.ChangeMaps
set_option maxHeartbeats 4000000
set_option maxRecDepth 100000
attribute [local go_sem] Oper.semAt_some
def linesL : Str → List Str
 | [] => []
 | c :: r => if c = 10 then [10] :: linesL r else match linesL r with
  | [] => [[c]]
  | l :: ls => (c :: l) :: ls
theorem lines_some : ∀ {s : Str} {k : Nat}, Lib.indexByte s 10 = (k : Int) → linesL s = s.take (k + 1) :: linesL (s.drop (k + 1)) ∧ k < s.length
 | [], k, h => by simp [Lib.indexByte] at h
 | c :: r, k, h => by
  rw [Lib.indexByte] at h
  by_cases hc : c = 10
  ·subst hc
   rw [if_pos (by decide)] at h
   obtain rfl : k = 0 := by omega
   rw [linesL, if_pos rfl]
   simp
  ·rw [if_neg (by simpa using hc)] at h
   have hge := Lib.indexByte_ge r 10
   split at h
   ·omega
   ·rename_i h1
    obtain ⟨j, hj⟩ : ∃ j : Nat, Lib.indexByte r 10 = (j : Int) := ⟨(Lib.indexByte r 10).toNat, by simp at h1; omega⟩
    obtain rfl : k = j + 1 := by omega
    obtain ⟨h2, h3⟩ := lines_some hj
    rw [linesL, if_neg hc, h2]
    simp; omega
theorem lines_none : ∀ {s : Str}, Lib.indexByte s 10 = -1 → s ≠ [] → linesL s = [s]
 | [], _, h => absurd rfl h
 | c :: r, h, _ => by
  rw [Lib.indexByte] at h
  have hge := Lib.indexByte_ge r 10
  by_cases hc : c = 10
  ·subst hc
   rw [if_pos (by decide)] at h
   omega
  ·rw [if_neg (by simpa using hc)] at h
   have h1 : Lib.indexByte r 10 = -1 := by
    split at h
    ·rename_i h2; simpa using h2
    ·omega
   rw [linesL, if_neg hc]
   by_cases hr : r = []
   ·subst hr; rfl
   ·rw [lines_none h1 hr]
theorem lines_size : ∀ {s x : Str}, x ∈ linesL s → x.length ≤ s.length
 | [], x, h => by simp [linesL] at h
 | c :: r, x, h => by
  rw [linesL] at h
  split at h
  ·rcases List.mem_cons.1 h with rfl | h
   ·simp
   ·have := lines_size h; simp; omega
  ·split at h
   ·obtain rfl : x = [c] := by simpa using h
    simp
   ·rename_i l ls hl
    rcases List.mem_cons.1 h with rfl | h
    ·have := lines_size (s := r) (x := l) (by rw [hl]; exact List.mem_cons_self); simp; omega
    ·have := lines_size (s := r) (x := x) (by rw [hl]; exact List.mem_cons_of_mem _ h); simp; omega
def encS (s : Str) : Array Value := #[sV s]
def KpL (B : Nat) (W W' : World) : Prop := ∀ v, Blk W B 9 #[v] → Blk W' B 9 #[v]
def boxLen (B : Nat) (W : World) : Nat := match W.cell? ⟨B, 0, none⟩ with
 | some (.string d) => d.size
 | _ => 0
theorem str_drop (w : Str) (n : Nat) : Value.string (({ data := w.toArray } : ByteArray).extract n ({ data := w.toArray } : ByteArray).size) = sV (w.drop n) := by
 unfold sV
 congr 1
 apply ByteArray.ext
 simp [ByteArray.data_extract, ByteArray.size]
 rw [List.take_of_length_le (by simp)]
theorem boxLen_eq {B : Nat} {W : World} {s : Str} (h : Blk W B 9 #[sV s]) : boxLen B W = s.length := by
 unfold boxLen
 rw [h.cell]
 simp [sV, ByteArray.size]
theorem lines_any (s : Str) (w : World) : Calls Tryz.prog 103 #[sV s] w fun e w' =>
    e = .returned (.func (.func 162) #[] #[.pointer (some ⟨w.heap.size, 0, none⟩)]) ∧ w' = w.alloc (.cells #[sV s] 9) := by
  go_enter Tryz.func103, Tryz.ntmps103
  go_wp2
  go_ret
  exact ⟨rfl, rfl⟩
theorem lines_seq (nf : Nat) (hn : 1 ≤ nf) {D B : Nat} {s : Str} (hs : s.length ≤ 1000000) {I : List Str → World → Prop} {Ix : Code → List Str → World → Prop} (hI : OwnFrom D I) (hIB : ∀ xs W W', I xs W → Chg [B] W W' → I xs W') {rec : LoopState → Option Code → Loop} {W1 : World}
  (hB1 : Blk W1 B 9 #[sV s]) (hR1 : Rdy D rec W1) (h0 : I [] W1)
  (hY : ∀ pre x W, I pre W → (∃ r, linesL s = pre ++ x :: r) → Rdy D rec W → YieldAt Fence.wide (nf - 1) Tryz.prog (D + 1) (encS x) W (rndPost D rec I Ix (KpL B) (pre ++ [x]) W)) :
  CallsIn Fence.wide nf Tryz.prog 162 (#[.func (.yield (D + 1)) #[] #[]] ++ #[.pointer (some ⟨B, 0, none⟩)]) W1 fun e W' => (∃ v, e = .returned v) ∧ ((∃ xs, xs = linesL s ∧ I xs W' ∧ Rdy D rec W') ∨ ∃ c pre, Ix c pre W' ∧ Dne D rec c W') := by
 refine callsIn_of_wp Tryz.func162 rfl trivial ?_ rfl
 simp only [Tryz.ntmps162, List.size_toArray, List.length_cons, List.length_nil, Nat.reduceAdd, Nat.reduceSub, Array.replicate_succ, Array.replicate_zero, List.push_toArray, List.append_toArray, List.nil_append, List.cons_append]
 gi_wp2
 gi_loopw [4] (fun _ wr => ∃ pre rest, linesL s = pre ++ linesL rest ∧ rest.length ≤ 1000000 ∧ Blk wr B 9 #[sV rest] ∧ I pre wr ∧ Rdy D rec wr) (fun _ wr => boxLen B wr)
 case atStart => exact ⟨[], s, rfl, hs, hB1, h0, hR1⟩
 case round =>
  obtain ⟨pre, rest, hL, hl, hB, hi, hR⟩ := hrel
  have fB := (show Blk wr B 9 #[Value.string { data := rest.toArray }] from hB).facts
  have HL := Lib.hid hL
  by_cases hr : rest = []
  ·subst hr
   gi_wp2
   go_end0
   exact ⟨⟨_, rfl⟩, .inl ⟨_, by rw [HL.out]; simp [linesL], hi, hR⟩⟩
  ·have hpos : (0 < rest.length) = True := eq_true (List.length_pos_iff.2 hr)
   have c1 := str_strings_IndexByte ⟨rest.toArray⟩ 10
   have hdone : ∀ (x r : Str) (e : Ending) (W3 : World), linesL rest = x :: linesL r → r.length < rest.length → ∀ {W2 : World}, Blk W2 B 9 #[sV r] → rndPost D rec I Ix (KpL B) (pre ++ [x]) W2 e W3 → (e = .returned (.bool true) ∧ (∃ pre rest', linesL s = pre ++ linesL rest' ∧ rest'.length ≤ 1000000 ∧ Blk W3 B 9 #[sV rest'] ∧ I pre W3 ∧ Rdy D rec W3) ∧ boxLen B W3 < boxLen B wr) ∨ (e = .returned (.bool false) ∧ ∃ c pre, Ix c pre W3 ∧ Dne D rec c W3) := by
    rintro x r e W3 hx hlt W2 hB2 (⟨rfl, h1, h2, h3⟩ | ⟨rfl, c, h1, h2⟩)
    ·exact .inl ⟨rfl, ⟨pre ++ [x], r, by rw [hL, hx]; simp, by omega, h3 _ hB2, h1, h2⟩, by rw [boxLen_eq (h3 _ hB2), boxLen_eq hB]; exact hlt⟩
    ·exact .inr ⟨rfl, c, _, h1, h2⟩
   have hset : ∀ (v : Value), Blk (wr.setCell ⟨B, 0, none⟩ v) B 9 #[v] ∧ I pre (wr.setCell ⟨B, 0, none⟩ v) ∧ Rdy D rec (wr.setCell ⟨B, 0, none⟩ v) := fun v => by
    have hk := keeps_set (B := D) hB 0 v
    exact ⟨hB.set_ 0 v, hIB _ _ _ hi ⟨rfl, rfl, rfl, by simp, fun k _ hn => Below.heap_setCell wr ⟨B, 0, none⟩ v k (by simpa using hn)⟩, hR.keeps hk⟩
   have hdrew : ∀ {W : World} {v : Value}, (Blk W B 9 #[v] ∧ I pre W ∧ Rdy D rec W) → Blk W.drew B 9 #[v] ∧ I pre W.drew ∧ Rdy D rec W.drew := fun {W v} ⟨h1, h2, h3⟩ => by
    have hb : Below W.heap.size W W.drew := bl_drew bl_refl
    exact ⟨h1.below hb, hI _ _ _ none h2 (grown_none hb) (by simp), h3.keeps (keeps_of_below hb)⟩
   rcases (show Lib.indexByte rest 10 = -1 ∨ ∃ k : Nat, Lib.indexByte rest 10 = (k : Int) by have := Lib.indexByte_ge rest 10; by_cases h : Lib.indexByte rest 10 = -1; exact .inl h; exact .inr ⟨_, (Int.toNat_of_nonneg (by omega)).symm⟩) with hk | ⟨k, hk⟩
   ·rw [show Lib.indexByte (⟨rest.toArray⟩ : ByteArray).data.toList (10 : Int).toNat.toUInt8 = -1 from hk] at c1
    have hln := lines_none hk hr
    obtain ⟨hB2, hi2, hR2⟩ := hset (sV [])
    obtain ⟨fn, tmps, assign, body, hy, hRd⟩ := hY pre rest _ hi2 ⟨[], by rw [hL, hln]⟩ hR2
    have hd := fun e W3 => hdone rest [] e W3 (by rw [hln]; rfl) (by simpa using hpos) hB2
    have hy' : (Instr.yield (D + 1) #[Value.string { data := rest.toArray }]).run Tryz.prog (wr.setCell ⟨B, 0, none⟩ (Value.string { data := #[] })) = .ok (.round (D + 1) fn tmps assign body) (wr.setCell ⟨B, 0, none⟩ (Value.string { data := #[] })) := hy
    clear hy hdone hset hdrew hL hR hi hln
    gi_wp2_with (refine ⟨trivial, ?_⟩; gi_at_call 163; refine (callsIn_wide.2 (c1 _)).mono ?_; rintro e w2 ⟨rfl, hw2⟩; subst hw2)
    refine hRd.mono ?_
    intro e W3 hp
    rcases hd e W3 hp with ⟨rfl, h1, h2⟩ | ⟨rfl, c, pre3, h1, h2⟩
    ·gi_wp2
     go_roundw
     case rel => exact h1
     case measure => exact h2
    ·gi_wp2
     refine bodyPost_ret (results_none rfl _ _ _) rfl ?_
     exact ⟨⟨_, rfl⟩, .inr ⟨c, pre3, h1, h2⟩⟩
   ·rw [show Lib.indexByte (⟨rest.toArray⟩ : ByteArray).data.toList (10 : Int).toNat.toUInt8 = (k : Int) from hk] at c1
    obtain ⟨hln, hkl⟩ := lines_some hk
    obtain ⟨hB2, hi2, hR2⟩ := hdrew (hset (sV (rest.drop (k + 1))))
    obtain ⟨fn, tmps, assign, body, hy, hRd⟩ := hY pre (rest.take (k + 1)) _ hi2 ⟨_, by rw [hL, hln]⟩ hR2
    have hd := fun e W3 => hdone (rest.take (k + 1)) (rest.drop (k + 1)) e W3 hln (by simp; omega) hB2
    have hy' : (Instr.yield (D + 1) #[Value.string (({ data := rest.toArray } : ByteArray).extract 0 (k + 1))]).run Tryz.prog (wr.setCell ⟨B, 0, none⟩ (Value.string (({ data := rest.toArray } : ByteArray).extract (k + 1) rest.length))).drew = .ok (.round (D + 1) fn tmps assign body) (wr.setCell ⟨B, 0, none⟩ (Value.string (({ data := rest.toArray } : ByteArray).extract (k + 1) rest.length))).drew := by
     have h1 := str_take rest (k + 1)
     have h2 := str_drop rest (k + 1)
     simp only [show ({ data := rest.toArray } : ByteArray).size = rest.length by simp [ByteArray.size]] at h2
     rw [h1, h2]
     exact hy
    have h2 := str_drop rest (k + 1)
    simp only [show ({ data := rest.toArray } : ByteArray).size = rest.length by simp [ByteArray.size]] at h2
    rw [← h2] at hRd hd
    clear h2
    clear hy hdone hset hdrew hL hR hi hln
    gi_wp2_with (refine ⟨trivial, ?_⟩; gi_at_call 163; refine (callsIn_wide.2 (c1 _)).mono ?_; rintro e w2 ⟨rfl, hw2⟩; subst hw2)
    refine wpIn_region_ords [0, 1, 2, 3, 4, 5, 6, 7, 8] [] [9] (fun _ => trivial) (by kernel_rfl) (by kernel_rfl) (by kernel_rfl) (fun d _ _ _ _ h => by cases d <;> exact h) ?_
    simp only [List.map_cons, List.map_nil, List.getD_cons_zero, List.getD_cons_succ]
    repeat (go_big_quiet_step (fail))
    refine wpQuiet_nil ?_
    refine wpMidI_nil ?_
    gi_wp2
    refine hRd.mono ?_
    intro e W3 hp
    rcases hd e W3 hp with ⟨rfl, h1, h2⟩ | ⟨rfl, c, pre3, h1, h2⟩
    ·gi_wp2
     go_roundw
     case rel => exact h1
     case measure => exact h2
    ·gi_wp2
     refine bodyPost_ret (results_none rfl _ _ _) rfl ?_
     exact ⟨⟨_, rfl⟩, .inr ⟨c, pre3, h1, h2⟩⟩
end Go.Proofs.YtkkefahobjlagaaGreatDoor
