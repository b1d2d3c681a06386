/- A builder of strings, of the program, walked. Conditions: the builder is the call's own. -/
import Derived.Test.YtkkefahobjlagaaGreatDoorQ08
import Derived.Test.YtkkefahobjlagaaGreatDoorQ09
import Derived.Shelf.Strings.BuilderK
import Derived.Lib.ItoaLen
import Derived.Laws.RangeAny
import Derived.Laws.RangeString
import Derived.Deep.CutRange
import Derived.Test.YtkkefahobjlagaaGreatDoorQ02
namespace Go.Proofs.YtkkefahobjlagaaGreatDoor
open Go.RowKit Go.ChangeMaps
set_option maxHeartbeats 4000000
set_option maxRecDepth 100000
theorem nBuilder_copyCheck_used (b : Nat) (w : World) (h0 : w.cell? ⟨b, 0, none⟩ = some (.pointer (some ⟨b, 0, none⟩))) :
  Calls Tryz.prog 153 #[.pointer (some ⟨b, 0, none⟩)] w fun e w' => e = .returned (.tuple #[]) ∧ w' = w := by
 obtain ⟨j, hj, _⟩ := Option.map_eq_some_iff.1 (show (Tryz.prog.info? 162).map (·.size) = some 2 by kernel_rfl)
 go_enter Tryz.func153, Tryz.ntmps153
 go_wp2
 rw [Lib.run_neq_ptr_same w _ Tryz.underlying159 hj]
 go_wp2
 go_end0
 exact ⟨rfl, rfl⟩
theorem nBuilder_copyCheck_fresh (b : Nat) (w : World) (h0 : w.cell? ⟨b, 0, none⟩ = some (.pointer none)) (hsh : w.shape? b = some (162, 2)) (hfz : w.frozen? ⟨b, 0, none⟩ = false) :
  Calls Tryz.prog 153 #[.pointer (some ⟨b, 0, none⟩)] w fun e w' => e = .returned (.tuple #[]) ∧ w' = w.setCell ⟨b, 0, none⟩ (.pointer (some ⟨b, 0, none⟩)) := by
 obtain ⟨j, hj, hjs⟩ := Option.map_eq_some_iff.1 (show (Tryz.prog.info? 162).map (·.size) = some 2 by kernel_rfl)
 go_enter Tryz.func153, Tryz.ntmps153
 go_wp2
 rw [Lib.run_to_unsafe w ⟨b, 0, none⟩ Tryz.underlying159 Tryz.underlying253 hj (by rw [hjs]; decide) hsh (Nat.zero_lt_succ 1)]
 simp only [Result.andThen]
 rw [Oper.upon_value]
 go_wp2
 rw [run_callFunc_extern Tryz.func183 (by kernel_rfl) (by kernel_rfl) (by kernel_rfl) (e := Extern.AbiNoEscape.same) (by kernel_rfl)]
 rw [Lib.run_noEscape]
 simp only [Result.andThen]
 rw [Oper.upon_value]
 go_wp2
 rw [Lib.run_from_unsafe w ⟨b, 0, none⟩ Tryz.underlying253 Tryz.underlying159 hj hsh (by kernel_rfl)]
 simp only [Result.andThen]
 rw [Oper.upon_value]
 go_wp2
 go_end0
 exact ⟨rfl, rfl⟩
theorem nBuilder_copyCheck (B b : Nat) (bs : List Value) (w : World) (h : Lib.IsBuilderF 162 5 B b bs w) :
  Calls Tryz.prog 153 #[.pointer (some ⟨b, 0, none⟩)] w fun e w' => e = .returned (.tuple #[]) ∧ (Lib.BuilderAtF 162 5 B b (.pointer (some ⟨b, 0, none⟩)) bs w' ∧ Below B w w' ∧ Lib.OthersKept 5 (some b) w w') := by
 rcases h with h | h
 ·refine (nBuilder_copyCheck_fresh b w h.cell0 h.shape h.frozen0).mono ?_
  rintro e w' ⟨rfl, rfl⟩
  exact ⟨rfl, h.used _, (Below.refl B w).setCell (p := ⟨b, 0, none⟩) h.1 _, (Lib.OthersKept.refl _ _ w).setCell ⟨b, 0, none⟩ rfl _⟩
 ·refine (nBuilder_copyCheck_used b w h.cell0).mono ?_
  rintro e w' ⟨rfl, rfl⟩
  exact ⟨rfl, h, Below.refl B _, Lib.OthersKept.refl _ _ _⟩
theorem nBuilder_WriteString (B b : Nat) (bs : List Value) (s : ByteArray) (w : World) (h : Lib.IsBuilderF 162 5 B b bs w) (hlen : bs.length + s.size ≤ 140737488355328) (hBw : B ≤ w.heap.size) :
  Calls Tryz.prog 97 #[.pointer (some ⟨b, 0, none⟩), .string s] w fun e w' => e = .returned (.tuple #[.int .i64 s.size, .nilIface]) ∧ (Lib.BuilderAtF 162 5 B b (.pointer (some ⟨b, 0, none⟩)) (bs ++ Lib.strCells s) w' ∧ Below B w w' ∧ Lib.OthersKept 5 (some b) w w') := by
 obtain ⟨i0, hi, hz0, hz1, hz2⟩ := info_parts (show (Tryz.prog.info? 5).map (fun i => (i.zero, i.size, i.bytes)) = some (some (.int .u8 0), 1, 1) by kernel_rfl)
 go_enter Tryz.func97, Tryz.ntmps97
 go_wp2_with (go_at_call 153; refine (nBuilder_copyCheck B b bs _ h).mono ?_)
 rintro e w1 ⟨rfl, h1, hb1, hk1⟩
 obtain ⟨hB, v, hbk, hown, hne⟩ := h1
 have c0 : w1.cell? ⟨b, 0, none⟩ = some (.pointer (some ⟨b, 0, none⟩)) := by rw [Lib.cell_of_heap hbk]; rfl
 have c1 : w1.cell? ⟨b, 1, none⟩ = some v := by rw [Lib.cell_of_heap hbk]; rfl
 go_wp2_with (at_builtin; refine Lib.wpList_append_own_stringF _ rfl _ _ 160 9 rfl B 5 i0 Tryz.underlying160 Tryz.underlying9 hi hz0 hz1 hz2 _ _ _ rfl hown s rfl ?c3 ?c4 ?c5 ?_)
 case c3 => unfold maxLen; omega
 case c4 => omega
 case c5 => have := hb1.size; omega
 intro v' w2 hown' hgrow _
 have hlt : b < w1.heap.size := by
  rcases Nat.lt_or_ge b w1.heap.size with h' | h'
  ·exact h'
  ·simp [Array.getElem?_eq_none h'] at hbk
 have hb2 : w2.heap[b]? = some (.cells #[.pointer (some ⟨b, 0, none⟩), v] 162 (0, 0)) := by
  rw [hgrow.block b hlt (fun e => hne e.symm)]
  exact hbk
 have d0 : w2.cell? ⟨b, 0, none⟩ = some (.pointer (some ⟨b, 0, none⟩)) := by rw [Lib.cell_of_heap hb2]; rfl
 have d1 : w2.cell? ⟨b, 1, none⟩ = some v := by rw [Lib.cell_of_heap hb2]; rfl
 have f1 : w2.frozen? ⟨b, 1, none⟩ = false := Lib.frozen_of_heap hb2 1
 obtain ⟨ao, n', cap, rfl⟩ : ∃ ao n' cap, v' = .slice ao n' cap := by
  rcases hown'.2 with ⟨hv, _⟩ | ⟨g, cap, cur, fz, hv, _⟩
  ·exact ⟨_, _, _, hv⟩
  ·exact ⟨_, _, _, hv⟩
 go_wp2
 go_ret2
 refine ⟨rfl, ?_, ?_, (hk1.grown hgrow (Lib.ownsRowF_kind hown)).setCell ⟨b, 1, none⟩ rfl _⟩
 ·exact Lib.BuilderAtF.put (T := 162) (e := 5) hB hb2 (bs' := bs ++ Lib.strCells s) (by simpa [Lib.strCells_length] using hown') (by decide)
 ·exact (hb1.grown hgrow (by have := hb1.size; omega) (fun k hk => (hown.lt k hk).1)).setCell (p := ⟨b, 1, none⟩) hB _
structure Lay (w : World) : Prop where
 tab : Lib.TabIs Tryz.prog w "internal/strconv.uint64pow10" .u64 Lib.pow10Tab
 mx : ∃ m, w.cell? ⟨1, 0, none⟩ = some (.int .i64 m)
 es : ∃ ev, w.cell? ⟨6, 0, none⟩ = some ev ∧ (ev = .nilIface ∨ ∃ te pe, ev = .iface te pe)
 er : ∃ ev, w.cell? ⟨7, 0, none⟩ = some ev ∧ (ev = .nilIface ∨ ∃ te pe, ev = .iface te pe)
theorem cell_lt {w : World} {b i : Nat} {v : Value} (h : w.cell? ⟨b, i, none⟩ = some v) : b < w.heap.size := by
 rcases Nat.lt_or_ge b w.heap.size with h' | h'
 ·exact h'
 ·simp [World.cell?, Array.getElem?_eq_none h'] at h
theorem tab_below {w w' : World} {n : String} {k : IntKind} {zs : List Int} {P : Program} (h : Lib.TabIs P w n k zs) (hb : Below w.heap.size w w') : Lib.TabIs P w' n k zs := by
 unfold Lib.TabIs World.var? at *
 cases hg : P.globalNamed n with
 | none => rw [hg] at h; simp at h
 | some g =>
  rw [hg] at h
  simp only [Option.bind_some] at h ⊢
  have hlt : g < w.heap.size := by
   rcases Nat.lt_or_ge g w.heap.size with h' | h'
   ·exact h'
   ·rw [Array.getElem?_eq_none h'] at h; simp at h
  rw [hb.block g hlt]
  exact h
theorem Lay.below {w w' : World} (h : Lay w) (hb : Below w.heap.size w w') : Lay w' := by
 obtain ⟨h1, ⟨m, h2⟩, ⟨e1, h3, h3'⟩, ⟨e2, h4, h4'⟩⟩ := h
 exact ⟨tab_below h1 hb, ⟨m, (hb.cell (p := ⟨1, 0, none⟩) (cell_lt h2)).trans h2⟩, ⟨e1, (hb.cell (p := ⟨6, 0, none⟩) (cell_lt h3)).trans h3, h3'⟩, ⟨e2, (hb.cell (p := ⟨7, 0, none⟩) (cell_lt h4)).trans h4, h4'⟩⟩
theorem below_grow (w : World) (os : Array Obj) : Below w.heap.size w (Sort.grow w os) := by
 unfold Sort.grow
 exact ⟨rfl, rfl, rfl, by simp, fun k hk => by simp [Array.getElem?_append, hk]⟩
theorem itoa_any (n : Int) (h : -1000000000000 ≤ n ∧ n ≤ 1000000000000) (w : World) (hL : Lay w) : Calls Tryz.prog 98 #[.int .i64 n] w (RV w (.string ⟨(Lib.itoa n).toArray⟩)) := by
 refine (str_strconv_Itoa n (by omega) (by omega) w hL.tab).mono ?_
 rintro e w' ⟨rfl, k, os, rfl⟩
 exact ⟨rfl, bl_then (below_grow _ os) (bl_drewN bl_refl k)⟩
abbrev Str := List UInt8
def sV (s : Str) : Value := .string ⟨s.toArray⟩
theorem sv_app (s t : Str) : Value.string (({ data := s.toArray } : ByteArray) ++ { data := t.toArray }) = sV (s ++ t) := by
 unfold sV
 congr 1
def Bld (b : Nat) (s : Str) (w : World) : Prop := Lib.IsBuilderF 162 5 b b (Lib.byteCells s) w
theorem bytes_app (s t : Str) : Lib.byteCells s ++ Lib.strCells ⟨t.toArray⟩ = Lib.byteCells (s ++ t) := by simp [Lib.byteCells, Lib.strCells]
theorem Bld.below {b : Nat} {s : Str} {w w' : World} (h : Bld b s w) (hb : Below w.heap.size w w') : Bld b s w' := by
 have one : ∀ p, Lib.BuilderAtF 162 5 b b p (Lib.byteCells s) w → Lib.BuilderAtF 162 5 b b p (Lib.byteCells s) w' := fun p h => by
  have hlt := h.lt
  obtain ⟨hB, v, hbk, hown, hne⟩ := h
  exact ⟨hB, v, (hb.block b hlt).trans hbk, hown.kept (grownBy_of_below hb none) (by cases hv : v.ownBlock <;> simp), hne⟩
 exact h.imp (one _) (one _)
theorem Bld.lt {b : Nat} {s : Str} {w : World} (h : Bld b s w) : b < w.heap.size := h.elim (fun h => h.lt) fun h => h.lt
theorem Blk.others {w w' : World} {g b : Nat} {t : TypeId} {cs : Array Value} (h : Blk w g t cs) (hk : Lib.OthersKept 5 (some b) w w') (hg : g ≠ b) (ht : t ≠ 5) : Blk w' g t cs :=
 hk g _ h (fun e => hg (by simpa using e)) (fun c fz e => ht (by cases e; rfl))
theorem wstr_any (b : Nat) (s t : Str) (w : World) (h : Bld b s w) (hlen : s.length + t.length ≤ 1000000) : Calls Tryz.prog 97 #[.pointer (some ⟨b, 0, none⟩), sV t] w
  fun e w' => e = .returned (.tuple #[.int .i64 t.length, .nilIface]) ∧ Bld b (s ++ t) w' ∧ Below b w w' ∧ Lib.OthersKept 5 (some b) w w' := by
 refine (nBuilder_WriteString b b (Lib.byteCells s) ⟨t.toArray⟩ w h (by simp [Lib.byteCells, ByteArray.size]; omega) (Nat.le_of_lt h.lt)).mono ?_
 rintro e w' ⟨rfl, h1, h2, h3⟩
 rw [bytes_app] at h1
 exact ⟨by simp [ByteArray.size], .inr h1, h2, h3⟩
theorem blen_any (b : Nat) (s : Str) (w : World) (h : Bld b s w) : Calls Tryz.prog 100 #[.pointer (some ⟨b, 0, none⟩)] w (fun e w' => e = .returned (.int .i64 s.length) ∧ w' = w) := by
 refine (str_Builder_Len_f b b _ w h).mono ?_
 rintro e w' ⟨rfl, rfl⟩
 exact ⟨by simp [Lib.byteCells], rfl⟩
theorem bstr_any (b : Nat) (s : Str) (w : World) (h : Bld b s w) : Calls Tryz.prog 101 #[.pointer (some ⟨b, 0, none⟩)] w (fun e w' => e = .returned (sV s) ∧ Below b w w') := by
 refine (str_Builder_String_any_k b b s w h (Nat.le_of_lt h.lt)).mono ?_
 rintro e w' ⟨rfl, _, h2, _⟩
 exact ⟨rfl, h2⟩
def letC (n : Nat) : Bool := decide (97 ≤ n ∧ n ≤ 122) || decide (65 ≤ n ∧ n ≤ 90)
def okC (i n : Nat) : Bool := letC n || (decide (i ≠ 0) && (decide (n = 95) || decide (48 ≤ n ∧ n ≤ 57)))
def nmF : Nat → Str → Bool
 | _, [] => true
 | i, c :: r => okC i c.toNat && nmF (i + 1) r
def nameR (s : Str) : Bool := decide (s.length ≠ 0) && (decide (s.length ≤ 24) && nmF 0 s)
theorem nmF_drop {s : Str} {i k : Nat} (h : k < s.length) : nmF i (s.drop k) = (okC i s[k].toNat && nmF (i + 1) (s.drop (k + 1))) := by
 rw [List.drop_eq_getElem_cons h]; rfl
theorem rname_any (s : Str) (hs : s.length ≤ 1000000) (w : World) : Calls Tryz.prog 53 #[sV s] w (RV w (.bool (nameR s))) := by
 by_cases h0 : s.length = 0
 ·have HS : Hid (nameR s = false) := by unfold Hid nameR; rw [decide_eq_false (by omega)]; rfl
  have e : s = [] := List.eq_nil_of_length_eq_zero h0
  subst e
  unfold sV
  clear h0 hs
  go_enter Tryz.func53, Tryz.ntmps53
  go_wp2
  go_ret
  exact ⟨by rw [HS.out]; rfl, by (repeat first|exact J0|assumption|(apply J1;assumption)|apply J2|apply J3|apply J4)⟩
 by_cases h24 : 24 < s.length
 ·have HS : Hid (nameR s = false) := by unfold Hid nameR; rw [decide_eq_false (show ¬ s.length ≤ 24 by omega)]; simp
  have t1 : ((s.length : Int) == 0) = false := beq_false_of_ne (by omega)
  have t2 : (24 < (s.length : Int)) = True := eq_true (by omega)
  unfold sV
  clear h0 h24
  go_enter Tryz.func53, Tryz.ntmps53
  go_wp2
  go_ret
  exact ⟨by rw [HS.out]; rfl, by (repeat first|exact J0|assumption|(apply J1;assumption)|apply J2|apply J3|apply J4)⟩
 have HS : Hid (nameR s = nmF 0 s) := by unfold Hid nameR; rw [decide_eq_true h0, decide_eq_true (show s.length ≤ 24 by omega)]; simp
 have t1 : ((s.length : Int) == 0) = false := beq_false_of_ne (by omega)
 have t2 : (24 < (s.length : Int)) = False := eq_false (by omega)
 unfold sV
 clear h0 h24
 go_enter Tryz.func53, Tryz.ntmps53
 go_wp2
 go_loopw [3] (fun i wr => ∃ k : Nat, k ≤ s.length ∧ i = .int .i64 k ∧ Hid (nmF 0 s = nmF k (s.drop k)) ∧ Below w.heap.size w wr) (fun i _ => s.length - (intOf i).toNat)
 case atStart => exact ⟨0, Nat.zero_le _, rfl, by simp [Hid], by (repeat first|exact J0|assumption|(apply J1;assumption)|apply J2|apply J3|apply J4)⟩
 case round =>
  obtain ⟨k, hk, rfl, H, hbw⟩ := hrel
  obtain ⟨wo, rfl⟩ : ∃ x, x = wr := ⟨_, rfl⟩
  by_cases hlt : k < s.length
  ·have HD := Lib.hid (nmF_drop (i := k) hlt)
   obtain ⟨n, hn⟩ : ∃ n : Nat, s[k].toNat = n := ⟨_, rfl⟩
   have hn2 : (({ data := s.toArray } : ByteArray)[k]'hlt).toNat = n := hn
   have hnb : n < 256 := by rw [← hn]; exact UInt8.toNat_lt _
   rw [hn] at HD
   clear hn
   go_upto_region 7 with fail
   clear hn2
   go_cut [5] from 23 to 37 (fun s5 wx => s5 = .bool (letC n) ∧ Below wo.heap.size wo wx)
   case first =>
    go_wp2_with fail
    all_goals
     go_meet
     case rel => exact ⟨by congr 1; unfold letC; rw [Bool.eq_iff_iff]; simp; omega, by (repeat first|exact J0|assumption|(apply J1;assumption)|apply J2|apply J3|apply J4)⟩
   case rest =>
    obtain ⟨rfl, hbc⟩ := hcut
    obtain ⟨wp, rfl⟩ : ∃ x, x = wc := ⟨_, rfl⟩
    have hbw2 := bl_then hbc hbw
    clear hbc
    obtain ⟨lt, hl⟩ : ∃ b, letC n = b := ⟨_, rfl⟩
    have HL := Lib.hid hl
    rw [hl]
    clear hl
    go_upto_region 8 with fail
    go_cut [54] from 37 to 54 (fun s54 wx => s54 = .bool (!okC k n) ∧ Below wp.heap.size wp wx)
    case first =>
     cases lt
     all_goals
      rcases hk0 : ((k : Int) == 0) with _ | _
      all_goals
       rcases h95 : ((n : Int) != 95) with _ | _
       all_goals
        have HK0 := Lib.hid hk0
        have H95 := Lib.hid h95
        go_wp2_with fail
        all_goals
         go_meet
         case rel =>
          have e1 := HK0.out
          have e2 := H95.out
          simp at e1 e2
          exact ⟨by congr 1; unfold okC; rw [HL.out]; rw [Bool.eq_iff_iff]; simp; try omega, by (repeat first|exact J0|assumption|(apply J1;assumption)|apply J2|apply J3|apply J4)⟩
    case rest =>
     obtain ⟨rfl, hbc⟩ := hcut
     have hbw3 := bl_then hbc hbw2
     obtain ⟨ok, ho⟩ : ∃ b, okC k n = b := ⟨_, rfl⟩
     rw [ho] at HD ⊢
     clear ho HL
     cases ok
     ·have HF : Hid (nmF 0 s = false) := by unfold Hid; rw [H.out, HD.out]; rfl
      go_wp2
      go_ret
      exact ⟨by rw [HS.out, HF.out]; rfl, hbw3⟩
     ·have HT : Hid (nmF 0 s = nmF (k + 1) (s.drop (k + 1))) := by unfold Hid; rw [H.out, HD.out]; rfl
      go_wp2
      go_roundw
      case rel => exact ⟨k + 1, by omega, by go_num, HT, hbw3⟩
      case measure => simp [intOf]; omega
  ·have HE : Hid (nmF 0 s = true) := by unfold Hid; rw [H.out, List.drop_of_length_le (by omega)]; rfl
   go_wp2
   go_ret
   exact ⟨by rw [HS.out, HE.out]; rfl, hbw⟩
theorem nname_any (s : Str) (hs : s.length ≤ 1000000) (w : World) : Calls Tryz.prog 118 #[sV s] w (RV w (.bool (nameR s))) := by
 by_cases h0 : s.length = 0
 ·have HS : Hid (nameR s = false) := by unfold Hid nameR; rw [decide_eq_false (by omega)]; rfl
  have e : s = [] := List.eq_nil_of_length_eq_zero h0
  subst e
  unfold sV
  clear h0 hs
  go_enter Tryz.func118, Tryz.ntmps118
  go_wp2
  go_ret
  exact ⟨by rw [HS.out]; rfl, by (repeat first|exact J0|assumption|(apply J1;assumption)|apply J2|apply J3|apply J4)⟩
 by_cases h24 : 24 < s.length
 ·have HS : Hid (nameR s = false) := by unfold Hid nameR; rw [decide_eq_false (show ¬ s.length ≤ 24 by omega)]; simp
  have t1 : ((s.length : Int) == 0) = false := beq_false_of_ne (by omega)
  have t2 : (24 < (s.length : Int)) = True := eq_true (by omega)
  unfold sV
  clear h0 h24
  go_enter Tryz.func118, Tryz.ntmps118
  go_wp2
  go_ret
  exact ⟨by rw [HS.out]; rfl, by (repeat first|exact J0|assumption|(apply J1;assumption)|apply J2|apply J3|apply J4)⟩
 have HS : Hid (nameR s = nmF 0 s) := by unfold Hid nameR; rw [decide_eq_true h0, decide_eq_true (show s.length ≤ 24 by omega)]; simp
 have t1 : ((s.length : Int) == 0) = false := beq_false_of_ne (by omega)
 have t2 : (24 < (s.length : Int)) = False := eq_false (by omega)
 obtain ⟨B, hB⟩ : ∃ B : ByteArray, ({ data := s.toArray } : ByteArray) = B := ⟨_, rfl⟩
 have hsz : B.size = s.length := by rw [← hB]; rfl
 have hget : ∀ k (h : k < s.length), (B[k]'(by rw [hsz]; exact h)) = s[k] := fun k h => by subst hB; rfl
 have HZ := Lib.hid hsz
 have HGt := Lib.hid hget
 unfold sV
 rw [hB]
 clear h0 h24 hB hget
 go_enter Tryz.func118, Tryz.ntmps118
 go_wp2
 go_loopw [3] (fun _ wr => ∃ k : Nat, k ≤ s.length ∧ wr = w.iter B k ∧ Hid (nmF 0 s = nmF k (s.drop k))) (fun _ wr => s.length - wr.iterPos w.heap.size)
 case atStart => exact ⟨0, Nat.zero_le _, rfl, by simp [Hid]⟩
 case round =>
  obtain ⟨k, hk, rfl, H⟩ := hrel
  have hbw : Below w.heap.size w (w.iter B k) := bl_alloc bl_refl _
  by_cases hlt : k < s.length
  ·have hp : k < B.size := by have := HZ.out; omega
   have HD := Lib.hid (nmF_drop (i := k) hlt)
   have hnx : ∀ ty, (Instr.next (.pointer (some ⟨w.heap.size, 0, none⟩)) true ty).run Tryz.prog (w.iter B k) = _ := fun ty => run_next_any w B k ty hp
   obtain ⟨n, hn⟩ : ∃ n : Nat, (Utf8.decode B k).1 = n := ⟨_, rfl⟩
   obtain ⟨d, hd⟩ : ∃ n : Nat, (Utf8.decode B k).2 = n := ⟨_, rfl⟩
   have hg : (B[k]'hp) = s[k] := HGt.out k hlt
   have key : Hid (okC k s[k].toNat = okC k n ∧ (okC k n = true → d = 1)) := by
    by_cases ha : (B[k]'hp).toNat < 128
    ·have := decode_ascii B k hp ha
     rw [this] at hn hd
     refine ⟨by rw [← hn, hg], fun _ => hd.symm⟩
    ·have hh := (decode_high B k hp (by omega)).1
     rw [hn] at hh
     have f1 : ∀ m, 128 ≤ m → okC k m = false := fun m hm => by
      unfold okC letC
      rw [show decide (97 ≤ m ∧ m ≤ 122) = false from decide_eq_false (by omega), show decide (65 ≤ m ∧ m ≤ 90) = false from decide_eq_false (by omega), show decide (m = 95) = false from decide_eq_false (by omega), show decide (48 ≤ m ∧ m ≤ 57) = false from decide_eq_false (by omega)]
      simp
     rw [hg] at ha
     rw [f1 _ (by omega), f1 n hh]
     exact ⟨rfl, fun q => by cases q⟩
   rw [hn, hd] at hnx
   have HD2 : Hid (nmF k (s.drop k) = (okC k n && nmF (k + 1) (s.drop (k + 1)))) := by unfold Hid; rw [HD.out, key.out.1]
   have HK : Hid (okC k n = true → d = 1) := key.out.2
   clear HD key hn hd hg
   go_upto_region 6 with fail
   go_cut [5] from 20 to 34 (fun s5 wx => s5 = .bool (letC n) ∧ wx = w.iter B (k + d))
   case first =>
    go_wp2_with fail
    all_goals
     go_meet
     case rel => exact ⟨by congr 1; unfold letC; rw [Bool.eq_iff_iff]; simp; omega, rfl⟩
   case rest =>
    obtain ⟨rfl, hw⟩ := hcut
    subst hw
    obtain ⟨lt, hl⟩ : ∃ b, letC n = b := ⟨_, rfl⟩
    have HL := Lib.hid hl
    rw [hl]
    clear hl
    go_upto_region 7 with fail
    go_cut [51] from 34 to 51 (fun s51 wx => s51 = .bool (!okC k n) ∧ wx = w.iter B (k + d))
    case first =>
     cases lt
     all_goals
      rcases hk0 : ((k : Int) == 0) with _ | _
      all_goals
       rcases h95 : ((n : Int) != 95) with _ | _
       all_goals
        have HK0 := Lib.hid hk0
        have H95 := Lib.hid h95
        go_wp2_with fail
        all_goals
         go_meet
         case rel =>
          have e1 := HK0.out
          have e2 := H95.out
          simp at e1 e2
          exact ⟨by congr 1; unfold okC; rw [HL.out]; rw [Bool.eq_iff_iff]; simp; try omega, rfl⟩
    case rest =>
     obtain ⟨rfl, hw⟩ := hcut
     subst hw
     have hbw3 : Below w.heap.size w (w.iter B (k + d)) := bl_alloc bl_refl _
     obtain ⟨ok, ho⟩ : ∃ b, okC k n = b := ⟨_, rfl⟩
     rw [ho] at HD2 HK ⊢
     clear ho HL
     cases ok
     ·have HF : Hid (nmF 0 s = false) := by unfold Hid; rw [H.out, HD2.out]; rfl
      go_wp2
      go_ret
      exact ⟨by rw [HS.out, HF.out]; rfl, hbw3⟩
     ·have HT : Hid (nmF 0 s = nmF (k + 1) (s.drop (k + 1))) := by unfold Hid; rw [H.out, HD2.out]; rfl
      obtain rfl : d = 1 := HK.out rfl
      go_wp2
      go_roundw
      case rel => exact ⟨k + 1, by omega, rfl, HT⟩
      case measure => simp; omega
  ·have hnx : ∀ ty, (Instr.next (.pointer (some ⟨w.heap.size, 0, none⟩)) true ty).run Tryz.prog (w.iter B k) = _ := fun ty => run_next_end w B k ty (by have := HZ.out; omega)
   have HE : Hid (nmF 0 s = true) := by unfold Hid; rw [H.out, List.drop_of_length_le (by omega)]; rfl
   go_wp2
   go_ret
   exact ⟨by rw [HS.out, HE.out]; rfl, hbw⟩
def hitR (row y : Int) (k : Knot) : Bool := decide (k.2 = row ∨ y < row ∧ row < k.2)
def minmax (a : Int × Int) (x : Int) : Int × Int := (min a.1 x, max a.2 x)
def rchGo (row : Int) : Int → List Knot → Int × Int → Int × Int
 | _, [], a => a
 | y, k :: r, a => rchGo row k.2 r (if hitR row y k then minmax a k.1 else a)
def noneR : Int × Int := (999999999, -999999999)
def rchI (l : List Knot) (row : Int) : Int × Int := match l with
 | [] => noneR
 | k :: r => rchGo row k.2 (k :: r) noneR
def lastY : Int → List Knot → Int
 | y, [] => y
 | _, k :: r => lastY k.2 r
theorem lastY_snoc : ∀ (l : List Knot) (y : Int) (k : Knot), lastY y (l ++ [k]) = k.2
 | [], _, _ => rfl
 | x :: r, _, k => lastY_snoc r x.2 k
theorem rchGo_app (row : Int) : ∀ (a b : List Knot) (y : Int) (s : Int × Int), rchGo row y (a ++ b) s = rchGo row (lastY y a) b (rchGo row y a s)
 | [], b, y, s => rfl
 | k :: r, b, y, s => by
  rw [List.cons_append, rchGo, rchGo, rchGo_app row r b]
  rfl
theorem rchI_snoc (l : List Knot) (p k : Knot) (row : Int) : rchI (l ++ [p, k]) row = if hitR row p.2 k then minmax (rchI (l ++ [p]) row) k.1 else rchI (l ++ [p]) row := by
 cases l with
 | nil => simp only [List.nil_append, rchI, rchGo]
 | cons q r =>
  have e : (q :: r) ++ [p, k] = ((q :: r) ++ [p]) ++ [k] := by simp
  show rchGo row q.2 ((q :: r) ++ [p, k]) noneR = _
  rw [e, rchGo_app]
  rw [lastY_snoc]
  rfl
theorem rchGo_none (row : Int) : ∀ (l : List Knot) (y : Int) (s : Int × Int), (∀ k ∈ l, k.2 < row) → rchGo row y l s = s
 | [], _, _, _ => rfl
 | k :: r, y, s, h => by
  have hk := h k (List.mem_cons_self ..)
  rw [rchGo, show hitR row y k = false by unfold hitR; rw [decide_eq_false]; omega]
  exact rchGo_none row r _ s fun x hx => h x (List.mem_cons_of_mem _ hx)
theorem rchI_none (l : List Knot) (row : Int) (h : ∀ k ∈ l, k.2 < row) : rchI l row = noneR := by
 cases l with
 | nil => rfl
 | cons k r => exact rchGo_none row _ _ _ h
def plcGo (y : Int) : Knot → List Knot → Int × Int
 | _, [] => (0, 0)
 | k, n :: r => if k.2 ≤ y ∧ y < n.2 then (if n.2 = k.2 + 1 then (k.1, n.1) else (n.1, n.1)) else plcGo y n r
def plcI (l : List Knot) (y : Int) : Int × Int := match l with
 | [] => (0, 0)
 | k :: r => plcGo y k r
abbrev Strp := Int × Int × Int × Int
def strI (L R : List Knot) (y : Int) : Strp := ((plcI L y).1, (plcI R y).1, (plcI L y).2, (plcI R y).2)
def strips (p : Pan) : List Strp := (List.range (heightP p).toNat).map fun y => strI (outP p false) (outP p true) (y : Nat)
def barsX (s : Strp) (y x : Int) : List Bar :=
 if (x + y) % 2 ≠ 0 then [] else
  (if s.2.2.1 ≤ x - 1 ∧ x - 1 ≤ s.2.2.2 then [(x, y, -1)] else []) ++ (if s.2.2.1 ≤ x + 1 ∧ x + 1 ≤ s.2.2.2 then [(x, y, 1)] else [])
def barsN (s : Strp) (y : Int) : Nat → List Bar
 | 0 => []
 | n + 1 => barsN s y n ++ barsX s y (s.1 + (n : Int))
def barsS (s : Strp) (y : Int) : List Bar := barsN s y (s.2.1 - s.1 + 1).toNat
def netN (l : List Strp) : Nat → List Bar
 | 0 => []
 | n + 1 => netN l n ++ barsS (l.getD n (0, 0, 0, 0)) n
def netL (p : Pan) : List Bar := netN (strips p) (strips p).length
def areaS (l : List Strp) : Int := (l.map fun s => s.2.1 - s.1 + (s.2.2.2 - s.2.2.1)).sum
def crossB (L R : List Knot) (n : Nat) : Bool := (List.range n).any fun y => decide ((rchI R (y : Nat)).1 < (rchI L (y : Nat)).2 + 2)
def panE0 (p : Pan) : Int := firstI [whenI (!nameR p.1) 8, withinI p.2.1 1 128, sideE p.2.2.1, sideE p.2.2.2]
def panE1 (p : Pan) : Int := firstI [whenI (decide (heightP p ≠ riseL (stpL p.2.2.2))) 2, whenI (decide (heightP p = 0)) 12, whenI (decide (256 < heightP p)) 4]
def panE (p : Pan) : Int := if panE0 p ≠ 0 then panE0 p else if panE1 p ≠ 0 then panE1 p else whenI (crossB (outP p false) (outP p true) ((heightP p).toNat + 1)) 16
end Go.Proofs.YtkkefahobjlagaaGreatDoor
