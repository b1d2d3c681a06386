/- The orders: the small parts. Conditions: none. -/
import Derived.Test.YtpcgeihemkhkjaaGreatDoorS31
import Derived.Test.YtpcgeihemkhkjaaGreatDoorS26
import Derived.Test.YtpcgeihemkhkjaaGreatDoorS10
import Derived.Test.YtpcgeihemkhkjaaGreatDoorS30
import Derived.Test.YtpcgeihemkhkjaaGreatDoorS18
import Derived.Test.YtpcgeihemkhkjaaGreatDoorS15
import Derived.Test.YtpcgeihemkhkjaaGreatDoorS16
namespace Go.Proofs.YtpcgeihemkhkjaaGreatDoor
open Go.RowKit Go.ChangeMaps
set_option maxHeartbeats 4000000
set_option maxRecDepth 100000
attribute [local go_sem] Oper.semAt_some
theorem Zo8 (x : Plc) (g : Nat) (n : Int) (w : World) (hg : Blk w g 3 #[.int .i64 n]) : Calls Tryz.prog 132 #[plV x, .pointer (some ⟨g, 0, none⟩)] w (RV w (.bool (decide (x.1 = n)))) := by
 obtain ⟨n1, t, a⟩ := x
 unfold plV
 simp only
 have hX := Blk.new w 100 #[.int .i64 n1, .bool t, .int .i64 a]
 have hg1 := hg.alloc (.cells #[.int .i64 n1, .bool t, .int .i64 a] 100)
 have fX := hX.facts
 have fg1 := hg1.facts
 go_enter Tryz.func132, Tryz.ntmps132
 go_wp2
 go_ret
 exact ⟨rfl, by (repeat first|exact J0|assumption|(apply J1;assumption)|apply J2|apply J3|apply J4)⟩
theorem Zo9 (out : List Plc) (A : Option Addr) (c : Nat) (g : Nat) (n : Int) (w : World) (h : Rd plc 3 w A out) (hl : out.length ≤ 100000) (hg : Blk w g 3 #[.int .i64 n]) :
  Calls Tryz.prog 176 #[.slice A out.length c, .func (.func 132) #[] #[.pointer (some ⟨g, 0, none⟩)]] w (IxP w (useB out n)) := by
 go_enter Tryz.func176, Tryz.ntmps176
 go_wp2
 go_loopw [8] (fun i wr => ∃ k : Nat, k ≤ out.length ∧ i = .int .i64 k ∧ Hid (useB (out.take k) n = false) ∧ Below w.heap.size w wr) (fun i _ => out.length - (intOf i).toNat)
 case atStart => exact ⟨0, Nat.zero_le _, rfl, rfl, Z03⟩
 case round =>
  obtain ⟨k, hk, rfl, HK, hbw⟩ := hrel; by_cases hlt : k < out.length
  ·obtain ⟨b, off, rfl, hb, e0, e1, e2⟩ := (h.below hbw).plc hlt
   have HA := Lib.hid (Zo4 hlt HK.out)
   have hC := Zo8 out[k] g n _ (hg.below hbw)
   obtain ⟨⟨x0, x1, x2⟩, hxx⟩ : ∃ z, out[k] = z := ⟨_, rfl⟩
   rw [hxx] at e0 e1 e2 hC HA; simp only at e0 e1 e2 hC HA
   obtain ⟨q, hq⟩ : ∃ q, decide (x0 = n) = q := ⟨_, rfl⟩
   rw [hq] at hC HA; simp only [plV] at hC; clear hxx hq; cases q
   ·go_wp2_with fail
    refine (hC).mono ?_
    rintro e w2 ⟨rfl, hb2⟩; go_wp2; go_roundw; case rel => exact ⟨k + 1, by omega, by go_num, HA.out.1 (by trivial), by (repeat first|exact J0|assumption|(apply J1;assumption)|apply J2|apply J3|apply J4)⟩
    case measure => simp [intOf]; omega
   ·go_wp2_with fail
    refine (hC).mono ?_
    rintro e w2 ⟨rfl, hb2⟩; go_wp2; go_ret; exact ⟨_, rfl, by rw [HA.out.2 (by trivial)]; simp, by (repeat first|exact J0|assumption|(apply J1;assumption)|apply J2|apply J3|apply J4)⟩
  ·obtain rfl : k = out.length := by omega
   have HE : Hid (useB out n = false) := by have := HK.out; rw [List.take_length] at this; exact this
   go_wp2; go_ret; exact ⟨_, rfl, by rw [HE.out]; rfl, by (repeat first|exact J0|assumption|(apply J1;assumption)|apply J2|apply J3|apply J4)⟩
theorem Zoa (out : List Plc) (A : Option Addr) (c : Nat) (g : Nat) (n : Int) (w : World) (h : Rd plc 3 w A out) (hl : out.length ≤ 100000) (hg : Blk w g 3 #[.int .i64 n]) :
  Calls Tryz.prog 121 #[.slice A out.length c, .func (.func 132) #[] #[.pointer (some ⟨g, 0, none⟩)]] w (RV w (.bool (useB out n))) := by
 go_enter Tryz.func121, Tryz.ntmps121
 go_wp2_with fail
 refine (Zo9 out A c g n w h hl hg).mono ?_
 rintro e w2 ⟨n2, rfl, hn, hb2⟩
 have HN := Lib.hid hn
 clear hn
 go_wp2
 go_ret
 exact ⟨by rw [← HN.out]; rfl, by (repeat first|exact J0|assumption|(apply J1;assumption)|apply J2|apply J3|apply J4)⟩
def mrkL (Ds : List Nat) : List Deferred := Ds.map fun D => { target := .collected D, args := #[] }
theorem Zob {F : Fence} {n : Nat} {P : Program} {fn : Func} {tmps : Array Value} {R : Ending → World → Prop} (Z : World → Prop) : ∀ (Ds : List Nat) (W : World), Ds.Nodup → (∀ D ∈ Ds, W.heap[D]? = some (.deferred (some []))) → Z W →
  (∀ W D, D ∈ Ds → W.heap[D]? = some (.deferred (some [])) → Z W → Z (W.putObj D (.deferred none))) → (∀ W', Z W' → LeavesInM F n P fn tmps R [] .returning W') → LeavesInM F n P fn tmps R (mrkL Ds) .returning W
 | [], W, _, _, hz, _, he => he W hz
 | D :: r, W, hn, hd, hz, hs, he => by
  rw [List.nodup_cons] at hn; have hD := hd D List.mem_cons_self
  refine ⟨by simp, .inl ⟨D, _, rfl, run_takeDeferred hD, ?_⟩⟩
  refine Zob Z r _ hn.2 (fun D' hD' => ?_) (hs W D List.mem_cons_self hD hz) (fun W' D' h' => hs W' D' (List.mem_cons_of_mem _ h')) he
  rw [World.putObj_heap_other (by rintro rfl; exact hn.1 hD')]
  exact hd D' (List.mem_cons_of_mem _ hD')
structure Mks (B0 : Nat) (Ds : List Nat) (W : World) : Prop where
 nd : Ds.Nodup
 ge : ∀ D ∈ Ds, B0 ≤ D
 at_ : ∀ D ∈ Ds, W.heap[D]? = some (.deferred (some []))
theorem Mks.nil_ {B0 : Nat} {W : World} : Mks B0 [] W := ⟨List.nodup_nil, by simp, by simp⟩
theorem Mks.lt {B0 : Nat} {Ds : List Nat} {W : World} (h : Mks B0 Ds W) : ∀ D ∈ Ds, D < W.heap.size := fun D hD => (Array.getElem?_eq_some_iff.1 (h.at_ D hD)).1
theorem Mks.chg {B0 : Nat} {Ds T : List Nat} {W W' : World} (h : Mks B0 Ds W) (hc : Chg T W W') (hT : ∀ D ∈ Ds, D ∉ T) : Mks B0 Ds W' :=
 ⟨h.nd, h.ge, fun D hD => (hc.block D (h.lt D hD) (hT D hD)).trans (h.at_ D hD)⟩
theorem Mks.below {B0 : Nat} {Ds : List Nat} {W W' : World} (h : Mks B0 Ds W) (hb : Below W.heap.size W W') : Mks B0 Ds W' :=
 ⟨h.nd, h.ge, fun D hD => (hb.block D (h.lt D hD)).trans (h.at_ D hD)⟩
theorem Mks.cons {B0 D : Nat} {Ds : List Nat} {W : World} (h : Mks B0 Ds W) (hD : D ∉ Ds) (hge : B0 ≤ D) (hd : W.heap[D]? = some (.deferred (some []))) : Mks B0 (D :: Ds) W :=
 ⟨List.nodup_cons.2 ⟨hD, h.nd⟩, fun x hx => by rcases List.mem_cons.1 hx with rfl | hx; exact hge; exact h.ge x hx, fun x hx => by rcases List.mem_cons.1 hx with rfl | hx; exact hd; exact h.at_ x hx⟩
def blkO (N k : Nat) (bg : List Plc) (i : Nat) : List (List Plc) := if useB bg (i : Int) = true then [] else ordG N k (bg ++ [((i : Int), false, 0)]) ++ ordG N k (bg ++ [((i : Int), true, 0)])
def donO (N k : Nat) (bg : List Plc) (i : Nat) : List (List Plc) := ((List.range N).take i).flatMap (blkO N k bg)
theorem Zoc (N k : Nat) (bg : List Plc) : ordG N (k + 1) bg = (List.range N).flatMap (blkO N k bg) := rfl
theorem Zod {N k i : Nat} {bg : List Plc} (hi : i < N) : donO N k bg (i + 1) = donO N k bg i ++ blkO N k bg i := by
 unfold donO
 rw [List.take_succ_eq_append_getElem (by simpa using hi), List.flatMap_append, List.getElem_range]
 simp
theorem Zoe {N k : Nat} {bg : List Plc} : donO N k bg N = ordG N (k + 1) bg := by
 unfold donO
 rw [List.take_of_length_le (by simp), Zoc]
theorem Zof {N k : Nat} {bg : List Plc} (i : Nat) (hi : i < N) : ∃ r, ordG N (k + 1) bg = donO N k bg i ++ (blkO N k bg i ++ r) := by
 refine ⟨((List.range N).drop (i + 1)).flatMap (blkO N k bg), ?_⟩
 rw [← List.append_assoc, ← Zod hi, Zoc]
 unfold donO
 rw [← List.flatMap_append, List.take_append_drop]
theorem Zog {α : Type} {enc : α → List Value} {sz : Nat} {P : Program} {t e : TypeId} {bytes : Nat} (E : Elem P t e sz bytes) (hk : ∀ x, (enc x).length = sz) (z : α) {v : Value} (hv : (P.info? e).bind (·.zero) = some v) (hc : v.cells = (enc z).toArray) (w : World) (n : Nat) (hn : n ≤ 1000000) (hb : bytes ≤ 1000) :
  (Instr.makeSlice t (.int .i64 (n : Int)) (.int .i64 ((n : Int) + 1))).run P w = .ok (.slice (some ⟨w.heap.size, 0, none⟩) n (n + 1)) (w.alloc (.cells (rowG enc (n + 1) fun _ => z) e)) := by
 obtain ⟨hund, hrow, hpos⟩ := E
 obtain ⟨i, hi, hrow⟩ : ∃ i, P.info? e = some i ∧ (i.zero.map (fun z => z.cells.size), i.size, i.bytes) = (some sz, sz, bytes) := by
  cases h : P.info? e with
  | none => rw [h] at hrow; cases hrow
  | some i => rw [h] at hrow; exact ⟨i, rfl, Option.some.inj hrow⟩
 have h2 := congrArg (fun x => x.2.1) hrow
 have h3 := congrArg (fun x => x.2.2) hrow
 simp only at h2 h3
 rw [hi] at hv
 have hmul : bytes * (n + 1) ≤ 1000 * 1000001 := Nat.mul_le_mul hb (by omega)
 have hmul2 : (bytes : Int) * ((n : Int) + 1) ≤ 1000001000 := by
  rw [show ((n : Int) + 1) = ((n + 1 : Nat) : Int) from rfl, ← Int.natCast_mul]
  omega
 have := run_make (P := P) w t e i v hund hi hv .i64 .i64 n ((n : Int) + 1) (by omega) (by omega) (by rw [h3]; exact Int.le_trans hmul2 (by decide)) (by omega)
 rw [this]
 simp only [Int.toNat_natCast, h2, hc, show ((n : Int) + 1).toNat = n + 1 from rfl, Zen hk z hpos]
theorem Zoh (w : World) (n : Nat) (hn : n ≤ 1000000) : (Instr.makeSlice 28 (.int .i64 (n : Int)) (.int .i64 ((n : Int) + 1))).run Tryz.prog w = .ok (.slice (some ⟨w.heap.size, 0, none⟩) n (n + 1)) (w.alloc (.cells (rowG plc (n + 1) fun _ => (0, false, 0)) 100)) :=
 Zog Zja Zj7 (0, false, 0) (v := .agg #[.int .i64 0, .bool false, .int .i64 0]) (by kernel_rfl) rfl w n hn (by decide)
theorem Zoi (w : World) (v : Value) (bg : List Plc) (h : SlL w v bg) (hl : bg.length ≤ 1000) (ty : TypeId) :
  ∃ w2, (Builtin.copy_ #[28, 28] ty #[.slice (some ⟨w.heap.size, 0, none⟩) bg.length (bg.length + 1), v]).run Tryz.prog (w.alloc (.cells (rowG plc (bg.length + 1) fun _ => (0, false, 0)) 100)) = .ok (goInt bg.length) w2 ∧
   Own plc 3 w.heap.size 100 w2 (.slice (some ⟨w.heap.size, 0, none⟩) bg.length (bg.length + 1)) bg ∧ Below w.heap.size w w2 := by
 have hB := Blk.new w 100 (rowG plc (bg.length + 1) fun _ => (0, false, 0))
 have hsz : (rowG plc (bg.length + 1) fun _ => ((0 : Int), false, (0 : Int))).size = (bg.length + 1) * 3 := Zek Zj7 _ _
 have hb : Below w.heap.size w (w.alloc (.cells (rowG plc (bg.length + 1) fun _ => (0, false, 0)) 100)) := Z04 Z03 _
 obtain ⟨w2, h1, h2, h3⟩ := Zfi (P := Tryz.prog) Zja Zj7 Zj9 ty hB 0 bg.length (bg.length + 1) v bg ⟨w.heap.size, 0, none⟩ (h.below hb) (fun _ => rfl) (by rw [hsz]; omega) (Nat.le_refl _)
 have hfl : (bg.flatMap plc).length = bg.length * 3 := Zeh Zj7 bg
 refine ⟨w2, h1, ⟨hfl, .inr ⟨w.heap.size, bg.length + 1, _, rfl, Nat.le_refl _, h2, by omega, by unfold maxLen; omega, ?_, ?_⟩⟩, Z9f hb h3 (Nat.le_refl _)⟩
 ·simp only [List.take_zero, List.nil_append, Nat.zero_add, List.size_toArray, List.length_append, hfl, List.length_drop, Array.length_toList, hsz]
  omega
 ·simp only [List.take_zero, List.nil_append, Nat.zero_add]
  rw [← hfl, List.take_left]
theorem Zoj (N : Nat) (A : Option Addr) (m c : Nat) (w : World) : Calls Tryz.prog 62 #[.int .i64 N, .slice A m c] w (fun e w' => ∃ gn gb, e = .returned (.func (.func 131) #[] #[.pointer (some ⟨gb, 0, none⟩), .pointer (some ⟨gn, 0, none⟩)]) ∧ Blk w' gn 3 #[.int .i64 N] ∧ Blk w' gb 28 #[.slice A m c] ∧ w.heap.size ≤ gn ∧ w.heap.size ≤ gb ∧ Below w.heap.size w w') := by
 have hX := (Blk.new w 3 #[.int .i64 N]).alloc (.cells #[.slice A m c] 28)
 have hY := Blk.new (w.alloc (.cells #[.int .i64 N] 3)) 28 #[.slice A m c]
 rw [World.size_alloc] at hY
 go_enter Tryz.func62, Tryz.ntmps62
 go_wp2
 go_ret
 exact ⟨_, _, rfl, hX, hY, Nat.le_refl _, by simp, by (repeat first|exact J0|assumption|(apply J1;assumption)|apply J2|apply J3|apply J4)⟩
abbrev OrX := Value × List Plc
def encO (x : OrX) : Array Value := #[x.1]
def IxF : Code → List OrX → World → Prop := fun _ _ _ => False
theorem Zok {m m' : Nat} {P : Program} {l : Nat} {f : FuncId} {tmps : Array Value} {assign body : Code} {w : World} {R : Ending → World → Prop} (h : RoundIn Fence.wide m P l f tmps assign body w R) : RoundIn Fence.wide m' P l f tmps assign body w R :=
 ⟨h.1, fun c cs _ => h.2 c cs (room_wide _)⟩
theorem Zol {m m' : Nat} {P : Program} {l : Nat} {args : Array Value} {W : World} {R : Ending → World → Prop} (h : YieldAt Fence.wide m P l args W R) : YieldAt Fence.wide m' P l args W R := by
 obtain ⟨fn, tmps, assign, body, h1, h2⟩ := h
 exact ⟨fn, tmps, assign, body, h1, Zok h2⟩
def noT (v : Value) (T : List Nat) : Prop := ∀ b, v.ownBlock = some b → b ∉ T
theorem SlL.chg_ {T : List Nat} {w w' : World} {v : Value} {l : List Plc} (h : SlL w v l) (hc : Chg T w w') (hn : noT v T) : SlL w' v l := by
 obtain ⟨A, c, rfl, h1, h2, h3⟩ := h
 exact ⟨A, c, rfl, h1, h2, h3.chgN hc fun b off e => hn b (by rw [e]; rfl)⟩
def OrdC (N k : Nat) (bg : List Plc) : Prop := ∀ (D gn gb : Nat) (A : Option Addr) (c : Nat) (T : List Nat) (I : List OrX → World → Prop) (rec : LoopState → Option Code → Loop) (W1 : World),
 Blk W1 gn 3 #[.int .i64 N] → Blk W1 gb 28 #[.slice A bg.length c] → SlL W1 (.slice A bg.length c) bg → gn ∉ T → gb ∉ T → noT (.slice A bg.length c) T → (∀ t ∈ T, t < W1.heap.size) → D + 1 ∈ T →
 OwnFrom D I → Rdy D rec W1 → I [] W1 →
 (∀ (pre : List OrX) (x : OrX) (W : World), (∃ r, ordG N k bg = pre.map (·.2) ++ x.2 :: r) → I pre W → SlL W x.1 x.2 → noT x.1 T → Rdy D rec W → YieldAt Fence.wide 5 Tryz.prog (D + 1) (encO x) W (Za5 D rec I IxF (Chg T) (pre ++ [x]) W)) →
 Calls Tryz.prog 131 #[.func (.yield (D + 1)) #[] #[], .pointer (some ⟨gb, 0, none⟩), .pointer (some ⟨gn, 0, none⟩)] W1 fun e W' => (∃ v, e = .returned v) ∧ ∃ xs, xs.map (·.2) = ordG N k bg ∧ I xs W' ∧ Rdy D rec W'
theorem Zom (N : Nat) (bg : List Plc) (hl : bg.length = N) (hN : N ≤ 100) : OrdC N 0 bg := by
 intro D gn gb A c T I rec W1 hGn hGb hS hn1 hn2 hn3 hT hDT hI hR h0 hY
 subst hl
 refine (callsIn_wide (n := 6)).1 ?_
 have fGn := hGn.facts
 have fGb := hGb.facts
 obtain ⟨fn, tmps, assign, body, hy, hRd⟩ := hY [] (.slice A bg.length c, bg) (W1.alloc (.cells #[.func (.yield (D + 1)) #[] #[]] 204)) ⟨[], rfl⟩ (hI.alloc _ h0) (hS.below (Z04 Z03 _)) hn3 (hR.keeps (Z84 (Z04 Z03 _)))
 unfold encO at hy
 simp only at hy
 have h11 : ((bg.length : Int) == (bg.length : Int)) = true := by simp
 refine callsIn_of_wp_marks Tryz.func131 rfl trivial ?_ rfl
 simp only [Tryz.ntmps131, List.size_toArray, List.length_cons, List.length_nil, Nat.reduceAdd, Nat.reduceSub, Array.replicate_succ, Array.replicate_zero, List.push_toArray, List.append_toArray, List.nil_append, List.cons_append]
 gi_wp2
 refine hRd.mono ?_
 rintro e W3 (⟨rfl, h1, h2, h3⟩ | ⟨rfl, c', h1, h2⟩)
 ·gi_wp2
  refine ⟨.tuple #[], results_none rfl _ _ _, ⟨_, rfl⟩, [(.slice A bg.length c, bg)], rfl, h1, h2⟩
 ·exact h1.elim
end Go.Proofs.YtpcgeihemkhkjaaGreatDoor
