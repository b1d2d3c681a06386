/- The string of a net, of the program, walked. Conditions: the variables are laid. -/
import Derived.Test.YtkmjcoofkgpanaaGreatDoorB16
import Derived.Lib.AtoiAllCases
namespace Go.Proofs.YtkmjcoofkgpanaaGreatDoor
open Go.RowKit Go.ChangeMaps
set_option maxHeartbeats 4000000
set_option maxRecDepth 100000

/-- a string's bytes -/
abbrev Str := List UInt8
def sV (s : Str) : Value := .string ⟨s.toArray⟩
def markS (s : Int) : Str := if s = 1 then [47] else [92]
def yOf (l : List Bar) (k : Nat) : Int := (l.getD k (0, 0, 0)).2.1
def hdP (l : List Bar) (k : Nat) : Bool := decide (k = 0 ∨ yOf l k ≠ yOf l (k - 1))
def tlP (l : List Bar) (k : Nat) : Bool := decide (k + 1 = l.length ∨ yOf l (k + 1) ≠ yOf l k)
/-- what is printed for one bar -/
def chnk (l : List Bar) (k : Nat) : Str := (if hdP l k then Lib.itoa (yOf l k) ++ [58] else []) ++ ([32] ++ Lib.itoa (l.getD k (0, 0, 0)).1 ++ markS (l.getD k (0, 0, 0)).2.2) ++ (if tlP l k then [10] else [])
/-- what is printed for the first k bars -/
def prT (l : List Bar) : Nat → Str
  | 0 => []
  | k + 1 => prT l k ++ chnk l k
def printL (l : List Bar) : Str := prT l l.length
def printE (l : List Bar) : Int := if netE l ≠ 0 then netE l else if 65536 < (printL l).length then 26 else 0
def printS (l : List Bar) : Str := if printE l = 0 then printL l else []
theorem mark_any (s : Int) (w : World) : Calls Tryz.prog 107 #[.int .i64 s] w (RV w (sV (markS s))) := by
  by_cases h : s = 1
  · subst h
    go_enter Tryz.func107, Tryz.ntmps107
    go_wp2
    go_ret
    exact ⟨rfl, by (repeat (first | exact bl_refl | assumption | (apply bl_then; assumption) | refine bl_alloc ?_ _ | refine bl_drew ?_ | refine bl_drewN ?_ _))⟩
  · have HM : Hid (markS s = [92]) := by unfold Hid markS; rw [if_neg h]
    have h' : (s == 1) = false := by simpa using h
    clear h
    go_enter Tryz.func107, Tryz.ntmps107
    go_wp2
    go_ret
    exact ⟨by rw [HM.out]; rfl, by (repeat (first | exact bl_refl | assumption | (apply bl_then; assumption) | refine bl_alloc ?_ _ | refine bl_drew ?_ | refine bl_drewN ?_ _))⟩
theorem sv_app (s t : Str) : Value.string (({ data := s.toArray } : ByteArray) ++ { data := t.toArray }) = sV (s ++ t) := by
  unfold sV
  congr 1
theorem ba_app (s t : Str) : ({ data := s.toArray } : ByteArray) ++ { data := t.toArray } = { data := (s ++ t).toArray } := by
  have := sv_app s t
  unfold sV at this
  exact Value.string.inj this
/-- the builder holds these bytes -/
def Bld (b : Nat) (s : Str) (w : World) : Prop := Lib.IsBuilderF 147 5 b b (Lib.byteCells s) w
theorem bytes_app (s t : Str) : Lib.byteCells s ++ Lib.strCells ⟨t.toArray⟩ = Lib.byteCells (s ++ t) := by simp [Lib.byteCells, Lib.strCells]
theorem Bld.below {b : Nat} {s : Str} {w w' : World} (h : Bld b s w) (hb : Below w.heap.size w w') : Bld b s w' := by
  have one : ∀ p, Lib.BuilderAtF 147 5 b b p (Lib.byteCells s) w → Lib.BuilderAtF 147 5 b b p (Lib.byteCells s) w' := fun p h => by
    have hlt := h.lt
    obtain ⟨hB, v, hbk, hown, hne⟩ := h
    exact ⟨hB, v, (hb.block b hlt).trans hbk, hown.kept (grownBy_of_below hb none) (by cases hv : v.ownBlock <;> simp), hne⟩
  exact h.imp (one _) (one _)
theorem Bld.lt {b : Nat} {s : Str} {w : World} (h : Bld b s w) : b < w.heap.size := h.elim (fun h => h.lt) fun h => h.lt
theorem Blk.others {w w' : World} {g b : Nat} {t : TypeId} {cs : Array Value} (h : Blk w g t cs) (hk : Lib.OthersKept 5 (some b) w w') (hg : g ≠ b) (ht : t ≠ 5) : Blk w' g t cs :=
  hk g _ h (fun e => hg (by simpa using e)) (fun c fz e => ht (by cases e; rfl))
theorem wstr_any (b : Nat) (s t : Str) (w : World) (h : Bld b s w) (hlen : s.length + t.length ≤ 1000000) : Calls Tryz.prog 105 #[.pointer (some ⟨b, 0, none⟩), sV t] w
    fun e w' => e = .returned (.tuple #[.int .i64 t.length, .nilIface]) ∧ Bld b (s ++ t) w' ∧ Below b w w' ∧ Lib.OthersKept 5 (some b) w w' := by
  refine (nBuilder_WriteString b b (Lib.byteCells s) ⟨t.toArray⟩ w h (by simp [Lib.byteCells, ByteArray.size]; omega) (Nat.le_of_lt h.lt)).mono ?_
  rintro e w' ⟨rfl, h1, h2, h3⟩
  rw [bytes_app] at h1
  exact ⟨by simp [ByteArray.size], .inr h1, h2, h3⟩
theorem wbyte_any (b : Nat) (s : Str) (c : UInt8) (w : World) (h : Bld b s w) (hlen : s.length ≤ 1000000) : Calls Tryz.prog 108 #[.pointer (some ⟨b, 0, none⟩), .int .u8 c.toNat] w
    fun e w' => e = .returned .nilIface ∧ Bld b (s ++ [c]) w' ∧ Below b w w' ∧ Lib.OthersKept 5 (some b) w w' := by
  refine (nBuilder_WriteByte b b (Lib.byteCells s) c.toNat w h (by simp [Lib.byteCells]; omega) (Nat.le_of_lt h.lt)).mono ?_
  rintro e w' ⟨rfl, h1, h2, h3⟩
  exact ⟨rfl, .inr (by rw [show Lib.byteCells (s ++ [c]) = Lib.byteCells s ++ [.int .u8 c.toNat] by simp [Lib.byteCells]]; exact h1), h2, h3⟩
theorem blen_any (b : Nat) (s : Str) (w : World) (h : Bld b s w) : Calls Tryz.prog 109 #[.pointer (some ⟨b, 0, none⟩)] w (fun e w' => e = .returned (.int .i64 s.length) ∧ w' = w) := by
  refine (str_Builder_Len_f b b _ w h).mono ?_
  rintro e w' ⟨rfl, rfl⟩
  exact ⟨by simp [Lib.byteCells], rfl⟩
theorem bstr_any (b : Nat) (s : Str) (w : World) (h : Bld b s w) : Calls Tryz.prog 110 #[.pointer (some ⟨b, 0, none⟩)] w (fun e w' => e = .returned (sV s) ∧ Below b w w') := by
  refine (str_Builder_String_any_k b b s w h (Nat.le_of_lt h.lt)).mono ?_
  rintro e w' ⟨rfl, _, h2, _⟩
  exact ⟨rfl, h2⟩
theorem chnk_len (l : List Bar) (k : Nat) (h : ∀ b ∈ l, BarOk b) (hk : k < l.length) : (chnk l k).length ≤ 60 := by
  have hb := h _ (List.getElem_mem hk)
  unfold BarOk at hb
  have e : l.getD k (0, 0, 0) = l[k] := by simp [hk]
  have h1 := Lib.itoa_length_le (yOf l k) (by unfold yOf; rw [e]; omega) (by unfold yOf; rw [e]; omega)
  have h2 := Lib.itoa_length_le (l.getD k (0, 0, 0)).1 (by rw [e]; omega) (by rw [e]; omega)
  have h3 : (markS (l.getD k (0, 0, 0)).2.2).length = 1 := by unfold markS; split <;> rfl
  unfold chnk
  simp only [List.length_append, h3, List.length_cons, List.length_nil]
  split <;> split <;> simp only [List.length_append, List.length_cons, List.length_nil] <;> omega
theorem prT_len (l : List Bar) (h : ∀ b ∈ l, BarOk b) : ∀ k, k ≤ l.length → (prT l k).length ≤ 60 * k
  | 0, _ => by simp [prT]
  | k + 1, hk => by
    have := prT_len l h k (by omega)
    have := chnk_len l k h (by omega)
    rw [prT, List.length_append]
    omega
theorem apiPrint_any {v : Value} (l : List Bar) (w : World) (h : SlB w v l) (hL : Lay w) : Calls Tryz.prog 38 #[v] w (RV w (.tuple #[sV (printS l), .int .i64 (printE l)])) := by
  have h0 := h
  obtain ⟨A, c, rfl, hlc, hcm, hr0⟩ := h
  by_cases hE : netE l = 0
  · have hok := netE_ok hE
    have hE' : (netE l != 0) = false := by simp [hE]
    have HK := Lib.hid hok
    have hlen := hok.len
    have HP : Hid (printE l = if 65536 < (printL l).length then 26 else 0) := by unfold Hid printE; rw [if_neg (by simp [hE])]
    have HPL := Lib.hid (prT_len l hok.ok)
    clear hE hok
    go_enter Tryz.func38, Tryz.ntmps38
    go_wp2_with (go_at_call 64; refine (nnet_sl l _ h0).mono ?_; rintro e w1 ⟨rfl, hb1⟩)
    have hbd : Bld w1.heap.size [] (w1.alloc (.cells #[.pointer none, .slice none 0 0] 147)) :=
      .inl ⟨Nat.le_refl _, .slice none 0 0, heap_alloc_new w1 _, World.ownsRowF_of (World.ownsRow_nil _ _ _ _), by simp [Value.ownBlock]⟩
    have hbw1 : Below w.heap.size w w1 := by (repeat (first | exact bl_refl | assumption | (apply bl_then; assumption) | refine bl_alloc ?_ _ | refine bl_drew ?_ | refine bl_drewN ?_ _))
    have hL1 := hL.below hbw1
    go_loopw [15] (fun i wr => ∃ k : Nat, k ≤ l.length ∧ i = .int .i64 k ∧ Bld w1.heap.size (prT l k) wr ∧ Below w1.heap.size w1 wr) (fun i _ => l.length - (intOf i).toNat)
    case atStart => exact ⟨0, Nat.zero_le _, rfl, hbd, bl_alloc bl_refl _⟩
    case round =>
      clear hbd
      obtain ⟨k, hk, rfl, hB, hbr⟩ := hrel
      obtain ⟨wo, rfl⟩ : ∃ x, x = wr := ⟨_, rfl⟩
      have hbw := bl_then hbr hbw1
      by_cases hlt : k < l.length
      · have hr := hr0.below hbw
        obtain ⟨b, off, rfl, hb, e0, e1, e2⟩ := hr.bar hlt
        have hbo := HK.out.ok _ (List.getElem_mem hlt)
        have hpl := HPL.out k (by omega)
        have hge : l.getD k (0, 0, 0) = l[k] := by simp [hlt]
        have HC : Hid (prT l (k + 1) = prT l k ++ ((if hdP l k then Lib.itoa (yOf l k) ++ [58] else []) ++ ([32] ++ Lib.itoa l[k].1 ++ markS l[k].2.2) ++ (if tlP l k then [10] else []))) := by
          unfold Hid; rw [prT, chnk, hge]
        have hy0 : yOf l k = l[k].2.1 := by unfold yOf; rw [hge]
        rw [hy0] at HC
        obtain ⟨⟨x, y, s⟩, hx⟩ : ∃ z, l[k] = z := ⟨_, rfl⟩
        rw [hx] at e0 e1 e2 hbo HC hy0
        simp only at e0 e1 e2 HC hy0
        clear hx
        obtain ⟨q1, q2, q3⟩ := hbo
        simp only at q1 q2 q3
        obtain ⟨P, hP⟩ : ∃ P, prT l k = P := ⟨_, rfl⟩
        rw [hP] at hB HC hpl
        clear hP
        have hW := hB.lt
        have hbox := Blk.new wo 60 #[.int .i64 x, .int .i64 y, .int .i64 s]
        have hb2 : Below wo.heap.size wo (wo.alloc (.cells #[.int .i64 x, .int .i64 y, .int .i64 s] 60)) := bl_alloc bl_refl _
        obtain ⟨w2, hw2⟩ : ∃ X, wo.alloc (.cells #[.int .i64 x, .int .i64 y, .int .i64 s] 60) = X := ⟨_, rfl⟩
        rw [hw2] at hbox hb2
        have fbox := hbox.facts
        have hB2 := hB.below hb2
        have hr2 := hr.below hb2
        have hbw2 := bl_then hb2 hbw
        have hbr2 := bl_then hb2 hbr
        go_upto_region 8 with fail
        clear hw2 hB hr e0 e1 e2 hb hbr hbw
        go_cut [33] from 20 to 32 (fun u wx => u = .bool (hdP l k) ∧ Below w2.heap.size w2 wx)
        case first =>
          by_cases hk0 : 0 < k
          · have hk1 : 1 ≤ k := hk0
            have f2 := hr2.barAt (k := k - 1) (by omega)
            have hmx : (max 0 ((k : Int) - 1)).toNat = k - 1 := by omega
            have hd : Hid (hdP l k = !decide (y = (l[k - 1]'(by omega)).2.1)) := by
              unfold Hid hdP
              rw [hy0]
              have : yOf l (k - 1) = (l[k - 1]'(by omega)).2.1 := by unfold yOf; simp [show k - 1 < l.length by omega]
              rw [this]
              have hk00 : ¬ k = 0 := by omega
              simp [hk00]
            obtain ⟨y', hy'⟩ : ∃ z, (l[k - 1]'(by omega)).2.1 = z := ⟨_, rfl⟩
            rw [hy'] at hd f2
            clear hy'
            have hkz : ((k : Int) == 0) = false := by simp; omega
            refine wp_region_ords [0, 1, 2, 3, 4, 5, 6, 7, 8, 9, 10, 11, 12, 13] [] [] (by kernel_rfl) (by kernel_rfl) (fun d _ _ _ _ h => by cases d <;> exact h) ?_
            simp only [List.map_cons, List.map_nil, List.getD_cons_zero, List.getD_cons_succ]
            repeat (go_big_quiet_step (fail))
            refine wpQuiet_nil ?_
            refine wpMid_nil ?_
            go_wp2
            go_meet
            case rel => exact ⟨by rw [hd.out]; rfl, by (repeat (first | exact bl_refl | assumption | (apply bl_then; assumption) | refine bl_alloc ?_ _ | refine bl_drew ?_ | refine bl_drewN ?_ _))⟩
          · obtain rfl : k = 0 := by omega
            have hd : Hid (hdP l 0 = true) := by unfold Hid hdP; simp
            refine wp_region_ords [0, 1, 2, 3, 4, 5, 6, 7, 8, 9, 10, 11, 12, 13] [] [] (by kernel_rfl) (by kernel_rfl) (fun d _ _ _ _ h => by cases d <;> exact h) ?_
            simp only [List.map_cons, List.map_nil, List.getD_cons_zero, List.getD_cons_succ]
            repeat (go_big_quiet_step (fail))
            refine wpQuiet_nil ?_
            refine wpMid_nil ?_
            go_wp2
            go_meet
            case rel => exact ⟨by rw [hd.out], by (repeat (first | exact bl_refl | assumption | (apply bl_then; assumption) | refine bl_alloc ?_ _ | refine bl_drew ?_ | refine bl_drewN ?_ _))⟩
        case rest =>
          rename_i u wc hcut
          obtain ⟨rfl, hbc⟩ := hcut
          have hB3 := hB2.below hbc
          have hbox3 := hbox.below hbc
          have hbr3 := bl_then hbc hbr2
          have hL3 := hL1.below hbr3
          have fbox3 := hbox3.facts
          clear hB2 hbox hbr2 hr2 fbox hbc hbw2 hb2
          obtain ⟨q, hq⟩ : ∃ q, hdP l k = q := ⟨_, rfl⟩
          rw [hq] at HC ⊢
          clear hq
          go_upto_if 33 with fail
          go_cut [38] from 34 to 37 (fun u wx => Bld w1.heap.size (P ++ if q then Lib.itoa y ++ [58] else []) wx ∧ Blk wx wo.heap.size 60 #[.int .i64 x, .int .i64 y, .int .i64 s] ∧ Below w1.heap.size w1 wx)
          case first =>
            cases q
            · go_wp2
              go_meet
              case rel => exact ⟨by simpa using hB3, hbox3, hbr3⟩
            · go_wp2_with fail
              go_at_call 106
              refine (itoa_any y (by omega) _ hL3).mono ?_
              rintro e w4 ⟨rfl, hb4⟩
              have hB4 := hB3.below hb4
              have hbox4 := hbox3.below hb4
              have hil := Lib.itoa_length_le y (by omega) (by omega)
              go_wp2_with fail
              go_at_call 105
              refine (show Calls Tryz.prog 105 #[.pointer (some ⟨w1.heap.size, 0, none⟩), .string (({ data := (Lib.itoa y).toArray } : ByteArray) ++ { data := [58].toArray })] w4 _ from by
                rw [sv_app]
                exact wstr_any w1.heap.size P (Lib.itoa y ++ [58]) w4 hB4 (by simp; omega)).mono ?_
              rintro e w5 ⟨rfl, hB5, hb5, ho5⟩
              have hbox5 := hbox4.others ho5 (by omega) (by decide)
              go_wp2
              go_meet
              case rel => exact ⟨by simpa using hB5, hbox5, (bl_then hb4 hbr3).trans hb5⟩
          case rest =>
            obtain ⟨hB6, hbox6, hbr6⟩ := hcut
            obtain ⟨wd, rfl⟩ : ∃ x, x = wc := ⟨_, rfl⟩
            have hL6 := hL1.below hbr6
            have fbox6 := hbox6.facts
            have hwd := hB6.lt
            clear hB3 hbox3 hbr3 hL3 fbox3
            obtain ⟨P2, hP2⟩ : ∃ P2, P ++ (if q then Lib.itoa y ++ [58] else []) = P2 := ⟨_, rfl⟩
            have hP2l : P2.length ≤ 60 * k + 30 := by
              have := Lib.itoa_length_le y (by omega) (by omega)
              rw [← hP2, List.length_append]
              split <;> simp <;> omega
            rw [hP2] at hB6
            have HP2 := Lib.hid hP2
            have hil := Lib.itoa_length_le x (by omega) (by omega)
            clear hP2
            go_upto_region 10 with fail
            refine wp_region_ords [0, 1, 4, 5] [(2, false), (3, true), (6, false)] [7, 8] (by kernel_rfl) (by kernel_rfl) (fun d _ _ _ _ h => by cases d <;> exact h) ?_
            simp only [List.map_cons, List.map_nil, List.getD_cons_zero, List.getD_cons_succ]
            repeat (go_big_quiet_step (fail))
            refine wpQuiet_nil ?_
            refine wpMid_run rfl (fun K hK => ?_)
            go_simp
            refine (itoa_any x (by omega) _ (hL6.below (by (repeat (first | exact bl_refl | assumption | (apply bl_then; assumption) | refine bl_alloc ?_ _ | refine bl_drew ?_ | refine bl_drewN ?_ _))))).mono ?_
            rintro e w7 ⟨rfl, hb7⟩
            refine hK _ _ (by (repeat (first | exact bl_refl | assumption | (apply bl_then; assumption) | refine bl_alloc ?_ _ | refine bl_drew ?_ | refine bl_drewN ?_ _))) ?_
            clear hK K
            have hbox6_w7 := hbox6.below (show Below _ _ w7 by (repeat (first | exact bl_refl | assumption | (apply bl_then; assumption) | refine bl_alloc ?_ _ | refine bl_drew ?_ | refine bl_drewN ?_ _)))
            have fhbox6_w7 := hbox6_w7.facts
            refine wpMid_take rfl ?_
            intro K hK
            go_big_quiet_op
            go_big_quiet_on
            refine wpMid_run rfl (fun K hK => ?_)
            go_simp
            refine (mark_any s _).mono ?_
            rintro e w8 ⟨rfl, hb8⟩
            refine hK _ _ (by (repeat (first | exact bl_refl | assumption | (apply bl_then; assumption) | refine bl_alloc ?_ _ | refine bl_drew ?_ | refine bl_drewN ?_ _))) ?_
            clear hK K
            have hbox6_w7_w8 := hbox6_w7.below (show Below _ _ w8 by (repeat (first | exact bl_refl | assumption | (apply bl_then; assumption) | refine bl_alloc ?_ _ | refine bl_drew ?_ | refine bl_drewN ?_ _)))
            have fhbox6_w7_w8 := hbox6_w7_w8.facts
            refine wpMid_nil ?_
            have hb68 : Below wd.heap.size wd w8 := by (repeat (first | exact bl_refl | assumption | (apply bl_then; assumption) | refine bl_alloc ?_ _ | refine bl_drew ?_ | refine bl_drewN ?_ _))
            have hB8 := hB6.below hb68
            have hbr8 := bl_then hb68 hbr6
            clear fbox6 hb7 hb8
            have hml : (markS s).length = 1 := by unfold markS; split <;> rfl
            simp only [sV]
            go_wp2_with fail
            go_at_call 105
            refine (show Calls Tryz.prog 105 #[.pointer (some ⟨w1.heap.size, 0, none⟩), .string (({ data := [32].toArray } : ByteArray) ++ { data := (Lib.itoa x).toArray } ++ { data := (markS s).toArray })] w8 _ from by
              rw [show (({ data := [32].toArray } : ByteArray) ++ { data := (Lib.itoa x).toArray }) = { data := ([32] ++ Lib.itoa x).toArray } from ba_app _ _, sv_app]
              exact wstr_any w1.heap.size P2 ([32] ++ Lib.itoa x ++ markS s) w8 hB8 (by simp; omega)).mono ?_
            rintro e w9 ⟨rfl, hB9, hb9, ho9⟩
            have hbox9 := hbox6_w7_w8.others ho9 (by omega) (by decide)
            have hbr9 := hbr8.trans hb9
            have hw9 := hB9.lt
            obtain ⟨P3, hP3⟩ : ∃ P3, P2 ++ ([32] ++ Lib.itoa x ++ markS s) = P3 := ⟨_, rfl⟩
            have hP3l : P3.length ≤ 60 * k + 60 := by rw [← hP3]; simp; omega
            rw [hP3] at hB9
            have HP3 := Lib.hid hP3
            have hr9 := hr0.below (hbw1.trans (hbr9.mono hbw1.size))
            have fbox9 := hbox9.facts
            clear hP3 hB8 hb9 hB6 hbox6 hbr6 hL6 hbr8 ho9
            go_upto_region 11 with fail
            go_cut [63] from 48 to 62 (fun u wx => u = .bool (tlP l k) ∧ Below w9.heap.size w9 wx)
            case first =>
              by_cases hk1 : k + 1 < l.length
              · have f2 := hr9.barAt (k := k + 1) hk1
                have hd : Hid (tlP l k = !decide (l[k + 1].2.1 = y)) := by
                  unfold Hid tlP
                  rw [hy0]
                  have : yOf l (k + 1) = l[k + 1].2.1 := by unfold yOf; simp [hk1]
                  rw [this]
                  have hk00 : ¬ k + 1 = l.length := by omega
                  simp [hk00]
                obtain ⟨y', hy'⟩ : ∃ z, l[k + 1].2.1 = z := ⟨_, rfl⟩
                rw [hy'] at hd f2
                clear hy' hy0
                have hkz : (((k : Int) + 1) == (l.length : Int)) = false := by simp; omega
                refine wp_region_ords [0, 1, 2, 3, 4, 5, 6, 7, 8, 9, 10, 11, 12, 13, 14, 15] [] [] (by kernel_rfl) (by kernel_rfl) (fun d _ _ _ _ h => by cases d <;> exact h) ?_
                simp only [List.map_cons, List.map_nil, List.getD_cons_zero, List.getD_cons_succ]
                repeat (go_big_quiet_step (fail))
                refine wpQuiet_nil ?_
                refine wpMid_nil ?_
                go_wp2
                go_meet
                case rel => exact ⟨by rw [hd.out]; rfl, by (repeat (first | exact bl_refl | assumption | (apply bl_then; assumption) | refine bl_alloc ?_ _ | refine bl_drew ?_ | refine bl_drewN ?_ _))⟩
              · have hd : Hid (tlP l k = true) := by unfold Hid tlP; simp; omega
                have hkz : (((k : Int) + 1) == (l.length : Int)) = true := by simp; omega
                clear hy0
                refine wp_region_ords [0, 1, 2, 3, 4, 5, 6, 7, 8, 9, 10, 11, 12, 13, 14, 15] [] [] (by kernel_rfl) (by kernel_rfl) (fun d _ _ _ _ h => by cases d <;> exact h) ?_
                simp only [List.map_cons, List.map_nil, List.getD_cons_zero, List.getD_cons_succ]
                repeat (go_big_quiet_step (fail))
                refine wpQuiet_nil ?_
                refine wpMid_nil ?_
                go_wp2
                go_meet
                case rel => exact ⟨by rw [hd.out], by (repeat (first | exact bl_refl | assumption | (apply bl_then; assumption) | refine bl_alloc ?_ _ | refine bl_drew ?_ | refine bl_drewN ?_ _))⟩
            case rest =>
              obtain ⟨rfl, hbe⟩ := hcut
              have hBe := hB9.below hbe
              have hbre := bl_then hbe hbr9
              obtain ⟨q, hq⟩ : ∃ q, tlP l k = q := ⟨_, rfl⟩
              rw [hq] at HC ⊢
              clear hq fbox9 hbox9 hr9
              cases q
              · go_wp2
                go_roundw
                case rel => exact ⟨k + 1, by omega, by go_num, by rw [HC.out, ← List.append_assoc, ← List.append_assoc, HP2.out, HP3.out]; simpa using hBe, hbre⟩
                case measure => simp [intOf]; omega
              · go_wp2_with (go_at_call 108; refine (wbyte_any w1.heap.size P3 10 _ hBe (by omega)).mono ?_; rintro e wf ⟨rfl, hBf, hbf, hof⟩)
                go_roundw
                case rel => exact ⟨k + 1, by omega, by go_num, by rw [HC.out, ← List.append_assoc, ← List.append_assoc, HP2.out, HP3.out]; exact hBf, hbre.trans hbf⟩
                case measure => simp [intOf]; omega
      · obtain rfl : k = l.length := by omega
        have hB' : Bld w1.heap.size (printL l) wo := hB
        clear hB
        by_cases hbig : 65536 < (printL l).length
        · have HS : Hid (printS l = [] ∧ printE l = 26) := by
            have h1 : printE l = 26 := by rw [HP.out, if_pos hbig]
            exact ⟨by unfold printS; rw [h1]; rfl, h1⟩
          have ht : ((65536 : Int) < ((printL l).length : Int)) = True := by simp; omega
          clear hbig
          go_wp2_with (go_at_call 109; refine (blen_any w1.heap.size _ _ hB').mono ?_; rintro e w5 ⟨rfl, hw5⟩; subst hw5)
          go_ret2
          exact ⟨by rw [HS.out.1, HS.out.2]; rfl, bl_then hbr hbw1⟩
        · have HS : Hid (printS l = printL l ∧ printE l = 0) := by
            have h1 : printE l = 0 := by rw [HP.out, if_neg hbig]
            exact ⟨by unfold printS; rw [h1]; rfl, h1⟩
          have ht : ((65536 : Int) < ((printL l).length : Int)) = False := by simp; omega
          clear hbig
          go_wp2_with (first | (go_at_call 109; refine (blen_any w1.heap.size _ _ hB').mono ?_; rintro e w5 ⟨rfl, hw5⟩; subst hw5) | (go_at_call 110; refine (bstr_any w1.heap.size _ _ hB').mono ?_; rintro e w6 ⟨rfl, hb6⟩))
          go_ret2
          exact ⟨by rw [HS.out.1, HS.out.2]; rfl, hbw1.trans ((hbr.trans hb6).mono hbw1.size)⟩
  · have HS : Hid (printS l = [] ∧ printE l = netE l) := by
      have h1 : printE l = netE l := by unfold printE; rw [if_pos hE]
      exact ⟨by unfold printS; rw [h1, if_neg hE], h1⟩
    have hE' : (netE l != 0) = true := by simpa using hE
    clear hE
    go_enter Tryz.func38, Tryz.ntmps38
    go_wp2_with (go_at_call 64; refine (nnet_sl l _ h0).mono ?_; rintro e w1 ⟨rfl, hb1⟩)
    go_ret2
    exact ⟨by rw [HS.out.1, HS.out.2]; rfl, by (repeat (first | exact bl_refl | assumption | (apply bl_then; assumption) | refine bl_alloc ?_ _ | refine bl_drew ?_ | refine bl_drewN ?_ _))⟩
end Go.Proofs.YtkmjcoofkgpanaaGreatDoor

/- A number read, of the program, walked. Conditions: the variables are laid. -/
namespace Go.Proofs.YtkmjcoofkgpanaaGreatDoor
open Go.RowKit Go.ChangeMaps
set_option maxHeartbeats 4000000
set_option maxRecDepth 100000

/-- what the program's 'integer' returns -/
def intR (s : Str) : Int × Bool := match Lib.atoiAll s with
  | .ok n => (n, decide (Lib.itoa n = s) && decide (max n (wrap64 (-n)) ≤ 999999))
  | .range => (Lib.atoiSat s, false)
  | _ => (0, false)
theorem sV_toList (s : Str) : (({ data := s.toArray } : ByteArray)).data.toList = s := rfl
theorem itoa_any' (n : Int) (h : -9223372036854775808 ≤ n ∧ n ≤ 9223372036854775807) (w : World) (hL : Lay w) : Calls Tryz.prog 106 #[.int .i64 n] w (RV w (.string ⟨(Lib.itoa n).toArray⟩)) := by
  refine (str_strconv_Itoa n h.1 h.2 w hL.tab).mono ?_
  rintro e w' ⟨rfl, k, os, rfl⟩
  exact ⟨rfl, bl_then (below_grow _ os) (bl_drewN bl_refl k)⟩
theorem int_any (s : Str) (hs : s.length ≤ 1000000) (w : World) (hL : Lay w) : Calls Tryz.prog 140 #[sV s] w (RV w (.tuple #[.int .i64 (intR s).1, .bool (intR s).2])) := by
  have hsz : (({ data := s.toArray } : ByteArray)).size = s.length := by simp [ByteArray.size]
  cases ha : Lib.atoiAll s
  · rename_i v
    have hb := Lib.atoiAll_bounds ha
    have HR : Hid (intR s = (v, decide (Lib.itoa v = s) && decide (max v (wrap64 (-v)) ≤ 999999))) := by unfold Hid intR; rw [ha]
    have hc : Calls Tryz.prog 154 #[sV s] w (RV w (.tuple #[.int .i64 v, .nilIface])) := by
      refine (str_strconv_Atoi_ok ⟨s.toArray⟩ (by rw [hsz]; omega) v ha w).mono ?_
      rintro e w' ⟨rfl, rfl | ⟨t, rfl⟩⟩
      · exact ⟨rfl, bl_refl⟩
      · exact ⟨rfl, rfl, rfl, rfl, by rw [Lib.bytesWorld_size]; omega, fun j hj => Lib.bytesWorld_at_old w _ t j hj⟩
    clear ha
    unfold sV at hc ⊢
    go_enter Tryz.func140, Tryz.ntmps140
    go_wp2_with fail
    refine hc.mono ?_
    rintro e w1 ⟨rfl, hb1⟩
    have hi := itoa_any' v hb w1 (hL.below hb1)
    go_wp2_with (go_at_call 106; refine hi.mono ?_; rintro e w2 ⟨rfl, hb2⟩)
    · rename_i hq
      have hR2 : Hid (intR s = (v, decide (max v (wrap64 (-v)) ≤ 999999))) := by unfold Hid; rw [HR.out, decide_eq_true hq, Bool.true_and]
      go_ret2
      exact ⟨by rw [hR2.out]; rfl, bl_then hb2 hb1⟩
    · rename_i hq
      have hR2 : Hid (intR s = (v, false)) := by unfold Hid; rw [HR.out, decide_eq_false hq, Bool.false_and]
      go_ret2
      exact ⟨by rw [hR2.out]; rfl, bl_then hb2 hb1⟩
  · have HR : Hid (intR s = (0, false)) := by unfold Hid intR; rw [ha]
    obtain ⟨ev, hev, hev2⟩ := hL.es
    have hc : Calls Tryz.prog 154 #[sV s] w (fun e w' => ∃ N, e = .returned (.tuple #[.int .i64 (0), .iface 236 (.pointer (some ⟨N, 0, none⟩))]) ∧ w.heap.size ≤ N ∧ w'.heap[N]? = some (.cells #[.string ⟨#[65, 116, 111, 105]⟩, .string ⟨s.toArray⟩, ev] 252 (0, 0)) ∧ Below w.heap.size w w') :=
      Any.strconv_Atoi_syntax str_laysC172 ⟨s.toArray⟩ (by rw [hsz]; omega) ha ev w hev hev2
    clear ha
    unfold sV at hc ⊢
    go_enter Tryz.func140, Tryz.ntmps140
    go_wp2_with fail
    refine hc.mono ?_
    rintro e w1 ⟨N, rfl, hN, hNB, hb1⟩
    go_wp2
    go_ret2
    exact ⟨by rw [HR.out]; rfl, hb1⟩
  · have HR : Hid (intR s = (Lib.atoiSat s, false)) := by unfold Hid intR; rw [ha]
    obtain ⟨ev, hev, hev2⟩ := hL.er
    have hc : Calls Tryz.prog 154 #[sV s] w (fun e w' => ∃ N, e = .returned (.tuple #[.int .i64 (Lib.atoiSat s), .iface 236 (.pointer (some ⟨N, 0, none⟩))]) ∧ w.heap.size ≤ N ∧ w'.heap[N]? = some (.cells #[.string ⟨#[65, 116, 111, 105]⟩, .string ⟨s.toArray⟩, ev] 252 (0, 0)) ∧ Below w.heap.size w w') :=
      Any.strconv_Atoi_range str_laysC172 ⟨s.toArray⟩ (by rw [hsz]; omega) ha ev w hev hev2
    clear ha
    unfold sV at hc ⊢
    go_enter Tryz.func140, Tryz.ntmps140
    go_wp2_with fail
    refine hc.mono ?_
    rintro e w1 ⟨N, rfl, hN, hNB, hb1⟩
    go_wp2
    go_ret2
    exact ⟨by rw [HR.out]; rfl, hb1⟩
end Go.Proofs.YtkmjcoofkgpanaaGreatDoor
